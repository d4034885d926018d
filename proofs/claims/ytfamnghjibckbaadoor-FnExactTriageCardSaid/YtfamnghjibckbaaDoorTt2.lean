import Derived.Test.YtfamnghjibckbaaDoorTt1
import Derived.Laws.StructEq
import Derived.MapKept
import Derived.BigCall
import Derived.Orders
/- What an operation of the abstract machine means for Go's own: closures, arrays' slices, maps, strings' iterators, structs compared. -/
namespace Go.Vm
set_option linter.unusedVariables false
set_option linter.unusedSimpArgs false
section ops
variable {P : Program} {B : Base} {C : Tab} {ρ : Rn} {M : Mem} {w : World} {e : Env} {a : Act} {o : Oper}
theorem sim_nc {d : Nat} {x : Opd} (hc : chkOp P (.nc d x) o.op = true) (hk : okO C e M (.nc d x)) (hE : OE P ρ e a [x]) (hm : MemR B ρ M w) : Sim P o a w (Out B ρ M (evT e x)) := by
  simp only [chkOp] at hc
  split at hc
  · rename_i x' ho
    have hv := hE x x' (by simp) hc
    refine Sim.value (v := a.eval x') ?_ (Out.same hv hm)
    simp only [okO] at hk
    generalize evT e x = vv at hk hv
    cases vv <;> try exact hk.elim
    case pv => obtain ⟨p, -, -, h3⟩ := (hv : VP ρ (.pv ..) _); simp [execOp, ho, h3]
    case pe => obtain ⟨p, -, -, -, -, h3⟩ := (hv : VP ρ (.pe ..) _); simp [execOp, ho, h3]
    case la => obtain ⟨b, z, -, h3⟩ := hv; simp [execOp, ho, h3]
    case fn => obtain ⟨rc, h3, -⟩ := (hv : VA ρ (.fn ..) _); simp [execOp, ho, h3]
  · cases hc
theorem args_P {ρ : Rn} : ∀ {xs : List Opd} {ys : List Operand}, chkXs P xs ys = true → OE P ρ e a xs → allP (evs e xs) = true → All2 (VP ρ) (evs e xs) (ys.map a.eval)
  | [], [], _, _, _ => trivial
  | x :: r, y :: q, hc, hE, ho => by
    simp only [chkXs, Bool.and_eq_true] at hc
    simp only [evs, allP, Bool.and_eq_true] at ho
    refine ⟨?_, args_P hc.2 (fun y z hy => hE y z (by simp [hy])) ho.2⟩
    have hv := hE x y (by simp) hc.1
    have h1 := ho.1
    generalize evT e x = vv at h1 hv
    cases vv <;> first | exact hv | (simp [AV.isP] at h1)
  | [], _ :: _, hc, _, _ => by simp [chkXs] at hc
  | _ :: _, [], hc, _, _ => by simp [chkXs] at hc
theorem sim_mf {d f : Nat} {caps : List Opd} (hc : chkOp P (.mf d f caps) o.op = true) (hk : allP (evs e caps) = true) (hE : OE P ρ e a caps) (hm : MemR B ρ M w) : Sim P o a w (Out B ρ M (.fn f (evs e caps))) := by
  simp only [chkOp] at hc
  split at hc
  · rename_i g first cs ho
    simp only [Bool.and_eq_true, beq_iff_eq] at hc
    obtain ⟨⟨rfl, h1⟩, h2⟩ := hc
    have hfirst : first = #[] := by simpa using h1
    subst hfirst
    refine Sim.value (v := .func (.func f) #[] (cs.map a.eval)) (by simp [execOp, ho, Instr.makeFunc]) (Out.same (VE.of (V2.of (V1.of (show VA ρ (.fn f (evs e caps)) _ from ⟨_, rfl, ?_⟩)))) hm)
    rw [Array.toList_map]
    exact args_P h2 hE hk
  · cases hc
theorem sim_sla {d len z : Nat} {x : Opd} (hc : chkOp P (.sla d x len z) o.op = true) (hk : okO C e M (.sla d x len z)) (hE : OE P ρ e a [x]) (hm : MemR B ρ M w) :
    Sim P o a w (Out B ρ M (vlO C e M (.sla d x len z))) := by
  simp only [chkOp] at hc
  split at hc
  · rename_i t x' ho
    simp only [Bool.and_eq_true] at hc
    obtain ⟨h1, h2⟩ := hc
    split at h2
    · rename_i l el har
      simp only [Bool.and_eq_true, beq_iff_eq, bne_iff_ne, ne_eq] at h2
      obtain ⟨⟨rfl, hz⟩, hl0⟩ := h2
      obtain ⟨id, hx, rw', xs, hob, hlen⟩ := hk
      have hv := hE x x' (by simp) h1
      rw [hx] at hv
      obtain ⟨p, p1, p2, p3⟩ := (hv : VP ρ (.pv id 0) _)
      have hid : id < M.h.n := by
        rcases Nat.lt_or_ge id M.h.n with h | h
        · exact h
        · have := (hm.heap.fr id h).1; rw [this] at p1; cases p1
      have hrep := hm.heap.rep id hid
      rw [hob] at hrep
      obtain ⟨hzz, q, rest, hA⟩ := hrep
      have hst := hA.hst0 rfl
      have hpq : p = q := by
        rw [hA.hpl, hst.1] at p1
        simpa using p1
      subst hpq
      obtain ⟨c, ty, fz, v1, v2, v3, v4, v5⟩ := hA.hv
      have hpx := hA.hx
      have hpz := hA.hz
      simp only [vlO, hx]
      refine Sim.value (v := .slice (some ⟨p.b, p.o, none⟩) l l) ?_ (Out.same (VE.of (V2.of (V1.of (VA.of (show VP ρ (.sl id 0 l) _ from ⟨p, p1, by omega, by omega, p.o, l, Nat.le_refl _, .inl (by rw [p2]; simp), .inr ?_, rfl⟩))))) hm)
      · have hu := arT_und har
        have hb : (Instr.sliceBounds false l l none none none).run P w = .ok (0, l, l) w := by simp [Instr.sliceBounds]
        simp [execOp, ho, p3, Instr.sliceAt, run_und hu, Instr.sureAddr, hb, run_sizeT hz, Addr.add, hl0]
      · rw [p2, hpx, hlen, hpz] at v4
        rw [hpz]; simpa using v4
    · cases h2
  · cases hc
theorem sim_mkm {d : Nat} (hc : chkOp P (.mkm d) o.op = true) (hm : MemR B ρ M w) : Sim P o a w (Out B ρ ⟨M.l, M.g, M.h.new (.map true [])⟩ (.mp M.h.n)) := by
  simp only [chkOp] at hc
  split at hc
  · rename_i t ho
    obtain ⟨h1, h2⟩ := hm.heap.newMap (w' := w.alloc (.map #[] 0)) (by simp) (fun b hb => heap_alloc_lt _ _ b hb) (heap_alloc_new _ _)
    refine Sim.value (v := .map (some w.heap.size)) (w' := w.alloc (.map #[] 0)) ?_ ⟨_, h2, VE.of (V2.of (V1.of (VA.of (show VP _ (.mp M.h.n) _ from ⟨w.heap.size, by simp [Rn.newO], rfl⟩)))), ?_⟩
    · simp [execOp, ho, Instr.makeMap]
    · exact hm.turn h1 h2 rfl (fun b hb => by simp only [Rn.newO]; rw [if_neg (by omega)]) (by simp) (fun b hb _ => heap_alloc_lt _ _ b hb) rfl rfl rfl
  · cases hc
theorem sim_rs {d : Nat} {x : Opd} (hc : chkOp P (.rs d x) o.op = true) (hk : (evT e x).isS = true) (hE : OE P ρ e a [x]) (hm : MemR B ρ M w) : Sim P o a w (Out B ρ (M.newL d 1 [evT e x, .i .i64 0]) (.li d M.g)) := by
  simp only [chkOp] at hc
  split at hc
  · rename_i t x' ho
    simp only [Bool.and_eq_true] at hc
    obtain ⟨h1, h2⟩ := hc
    obtain ⟨k1, k2⟩ := (hE x x' (by simp) h1).str hk
    obtain ⟨n1, n2, n3⟩ := hm.newLoc (w' := w.alloc (.stringIter ⟨(evT e x).toS.toArray⟩ 0)) d 1 0 [evT e x, .i .i64 0] (by simp) (fun b hb => heap_alloc_lt _ _ b hb) rfl rfl rfl
      ⟨w.heap.size, 0, by simp [Rn.newL], (evT e x).toS, 0, by rw [k1]; rfl, heap_alloc_new _ _⟩
    refine Sim.value (v := .pointer (some ⟨w.heap.size, 0, none⟩)) (w' := w.alloc (.stringIter ⟨(evT e x).toS.toArray⟩ 0)) ?_ ⟨_, n2, (show VE _ (.li d M.g) _ from ⟨_, _, n3, rfl⟩), n1⟩
    simp [execOp, ho, k2, Instr.range, run_und (strT_und h2)]
  · cases hc
theorem sim_nx {d : Nat} {x : Opd} (hc : chkOp P (.nx d x) o.op = true) (hk : itC M (evT e x)) (hE : OE P ρ e a [x]) (hm : MemR B ρ M w) : Sim P o a w (Out B ρ (mmO C e M (.nx d x)) (vlO C e M (.nx d x))) := by
  simp only [chkOp] at hc
  split at hc
  · rename_i x' s ho
    simp only [Bool.and_eq_true] at hc
    obtain ⟨h1, rfl⟩ := hc
    have hv := hE x x' (by simp) h1
    generalize hx : evT e x = vv at hk hv
    cases vv <;> try exact hk.elim
    case li t g =>
      obtain ⟨b, z, q1, q2⟩ := hv
      have hk' : (lookL M.l t g 1).isSome = true := hk
      obtain ⟨xs, hxs⟩ := Option.isSome_iff_exists.1 hk'
      obtain ⟨b', z', r1, l, n, r2, r3⟩ := hm.loc t g 1 xs hxs
      rw [q1] at r1
      cases r1
      have hl2 : xs = [.s l, .i .i64 n] := r2
      subst hl2
      have hg : M.getL t g 1 = [.s l, .i .i64 n] := by simp [Mem.getL, hxs]
      have hS : itS M (.li t g) = l := by simp only [itS, hg]
      have hP : itP M (.li t g) = n.toNat := by simp only [itP, hg]
      have hget : (getObj b).run P w = .ok (.stringIter ⟨l.toArray⟩ n.toNat) w := by simp [getObj, Sem.run, r3]
      have hsz : (⟨l.toArray⟩ : ByteArray).size = l.length := by simp [ByteArray.size]
      simp only [vlO, mmO, hx, hS, hP]
      by_cases hlt : n.toNat < l.length
      · simp only [if_pos hlt]
        have hlt' := (Array.getElem?_eq_some_iff.1 r3).1
        generalize hdec : Utf8.decode ⟨l.toArray⟩ n.toNat = cw
        obtain ⟨c, wd⟩ := cw
        let w' : World := { w with heap := w.heap.setIfInBounds b (.stringIter ⟨l.toArray⟩ (n.toNat + wd)) }
        have hset : (setObj b (.stringIter ⟨l.toArray⟩ (n.toNat + wd))).run P w = .ok () w' := by simp [setObj, Sem.run, r3, w']
        have hm' : MemR B ρ ⟨setL M.l t [.s l, .i .i64 (n.toNat + wd : Nat)], M.g, M.h⟩ w' := by
          refine hm.setLoc q1 hxs (by simp [w']) (fun b' hb' => by simp [w', Ne.symm hb']) rfl rfl rfl ⟨b, z, q1, l, _, rfl, ?_⟩
          simp [w', hlt']
          omega
        refine Sim.value (v := .tuple #[.bool true, goInt n.toNat, .int .i32 c]) (w' := w') ?_ ⟨ρ, .refl ρ, (show VE ρ (.tp _) _ from ⟨_, rfl, ?_⟩), hm'⟩
        · simp [execOp, ho, q2, Instr.next, hget, hsz, hlt, hdec, hset]
        · exact ⟨rfl, rfl, rfl, trivial⟩
      · simp only [if_neg hlt]
        refine Sim.value (v := .tuple #[.bool false]) ?_ (Out.same (show VE ρ (.tp [.b false]) _ from ⟨_, rfl, rfl, trivial⟩) hm)
        simp [execOp, ho, q2, Instr.next, hget, hsz, hlt]
  · cases hc
/-! Maps. -/
def descOf : Ck → TypeDesc
  | .b => .bool
  | .s => .string
  | .i k => .int k
theorem key_is {c : Ck} {k : AV} {kv : Value} (hk : k.isCk c = true) (hv : V1 ρ k kv) : MapKept.IsKey (descOf c) kv := by
  cases c <;> cases k <;> simp [AV.isCk] at hk <;> (have hv' : kv = _ := hv) <;> subst hv' <;> simp_all [MapKept.IsKey, descOf]
theorem key_eq {c : Ck} {k k' : AV} {kv kv' : Value} (hk : k.isCk c = true) (hk' : k'.isCk c = true) (hv : V1 ρ k kv) (hv' : V1 ρ k' kv') : cellsEq k.cells k'.cells = true ↔ kv = kv' := by
  cases c <;> cases k <;> simp [AV.isCk] at hk <;> cases k' <;> simp [AV.isCk] at hk' <;> (have h1 : kv = _ := hv) <;> (have h2 : kv' = _ := hv') <;> subst h1 h2
  · simp [AV.cells, cellsEq, cellEq]
  · simp [AV.cells, cellsEq, cellEq]
  · subst hk hk'
    simp [AV.cells, cellsEq, cellEq]
theorem map_find {c : Ck} {k : AV} {kv : Value} (hk : k.isCk c = true) (hv : V1 ρ k kv) : ∀ (es : List (AV × AV)) (l : List MapEntry) (i : Nat), All2 (EntR ρ) es l → (∀ e ∈ es, e.1.isCk c = true) →
    (Instr.findNow (descOf c) kv l i = some none ∧ mpFind es k = none ∧ (∀ v, mpPut es k v = es ++ [(k, v)]) ∧ mpDel es k = es) ∨
    ∃ j e m, Instr.findNow (descOf c) kv l i = some (some (i + j, m.val)) ∧ es[j]? = some e ∧ l[j]? = some m ∧ m.key = kv ∧ mpFind es k = some e.2 ∧ (∀ v, mpPut es k v = es.set j (k, v)) ∧ mpDel es k = es.eraseIdx j
  | [], [], i, _, _ => .inl ⟨rfl, rfl, fun _ => rfl, rfl⟩
  | e :: es, m :: l, i, h, hck => by
    have hme := h.1.1
    have hke := hck e (by simp)
    obtain ⟨r, hr, hiff⟩ := MapKept.sameNow_of_keys (key_is hk hv) (key_is hke hme)
    have heq := key_eq hk hke hv hme
    cases r with
    | true =>
      have e1 := hiff.1 rfl
      have e2 := heq.2 e1
      exact .inr ⟨0, e, m, by simp [Instr.findNow, hr], rfl, rfl, e1.symm, by simp [mpFind, e2], fun v => by simp [mpPut, e2], by simp [mpDel, e2]⟩
    | false =>
      have e2 : ¬ cellsEq k.cells e.1.cells = true := fun hh => by have := hiff.2 (heq.1 hh); cases this
      rcases map_find hk hv es l (i + 1) h.2 (fun x hx => hck x (by simp [hx])) with ⟨h1, h2, h3, h4⟩ | ⟨j, e', m', h1, h2, h3, h4, h5, h6, h7⟩
      · exact .inl ⟨by simp [Instr.findNow, hr, h1], by simp [mpFind, e2, h2], fun v => by simp [mpPut, e2, h3], by simp [mpDel, e2, h4]⟩
      · exact .inr ⟨j + 1, e', m', by simp [Instr.findNow, hr, h1]; omega, by simpa using h2, by simpa using h3, h4, by simp [mpFind, e2, h5], fun v => by simp [mpPut, e2, h6], by simp [mpDel, e2, h7]⟩
  | [], _ :: _, _, h, _ => h.elim
  | _ :: _, [], _, h, _ => h.elim
theorem ck1 {t : TypeId} {c : Ck} (h : ckT P 1 t = some [c]) : P.underlying t = some (descOf c) := by
  unfold ckT at h
  split at h
  · cases h; assumption
  · cases h; assumption
  · cases h; assumption
  · rename_i fs hu
    split at h
    · cases h
    · unfold ckFs at h
      split at h
      · cases h
      · rename_i f r _
        split at h
        · cases h
        · simp [ckT] at h
  · cases h
theorem mapT_und {t e : TypeId} {ks : List Ck} (h : mapT P t ks = some e) : ∃ k c, P.underlying t = some (.map k e) ∧ ks = [c] ∧ P.underlying k = some (descOf c) := by
  unfold mapT at h
  split at h
  · rename_i k e' hu
    split at h
    · rename_i hc
      cases h
      simp only [Bool.and_eq_true, beq_iff_eq] at hc
      obtain ⟨h1, h2⟩ := hc
      match ks, h2 with
      | [c], _ => exact ⟨k, c, hu, rfl, ck1 h1⟩
    · cases h
  · cases h
/-- A map's block. -/
theorem mp_obj {id : Nat} {v : Value} (h : HeapR ρ M.h w) (hv : VP ρ (.mp id) v) (hk : mpOk M.h (.mp id)) : ∃ rw es b ents clk, M.h.at' id = .map rw es ∧ id < M.h.n ∧ ρ.ob id = some b ∧ ρ.own b = ownOf rw id ∧ v = .map (some b) ∧ w.heap[b]? = some (.map ents clk) ∧ All2 (EntR ρ) es ents.toList := by
  obtain ⟨b, hb, rfl⟩ := hv
  have hid : id < M.h.n := by
    rcases Nat.lt_or_ge id M.h.n with h' | h'
    · exact h'
    · rw [(h.fr id h').2] at hb; cases hb
  simp only [mpOk] at hk
  split at hk
  · rename_i rw es ho
    have hrep := h.rep id hid
    rw [ho] at hrep
    obtain ⟨b', r1, r2, ents, clk, r3, r4⟩ := hrep
    rw [hb] at r1
    cases r1
    exact ⟨rw, es, b, ents, clk, ho, hid, hb, r2, rfl, r3, r4⟩
  · exact hk.elim
theorem sim_lnm {d : Nat} {x : Opd} (hc : chkOp P (.lnm d x) o.op = true) (hk : mpOk M.h (evT e x)) (hE : OE P ρ e a [x]) (hm : MemR B ρ M w) : Sim P o a w (Out B ρ M (.i .i64 (mpEs M.h (evT e x)).length)) := by
  simp only [chkOp] at hc
  split at hc
  · rename_i c ho
    split at hc
    · rename_i x' t hcal hargs htys
      simp only [Bool.and_eq_true] at hc
      obtain ⟨h1, h2⟩ := hc
      have ha1 : c.args = #[x'] := by have := congrArg List.toArray hargs; simpa using this
      have ha2 : c.argTypes = #[t] := by have := congrArg List.toArray htys; simpa using this
      split at h2
      · rename_i k el hu
        have hv := hE x x' (by simp) h1
        generalize evT e x = vv at hk hv
        cases vv <;> try exact hk.elim
        case nm =>
          have hv' : a.eval x' = .map none := hv
          refine Sim.value (v := .int .i64 0) ?_ (Out.same (VE.of (V2.of (V1.of (VA.of (show VP ρ (.i .i64 0) _ from rfl))))) hm)
          simp [execOp, ho, resolve, hcal, ha1, ha2, invoke, builtin, Builtin.len_, run_und hu, hv', goInt]
        case mp id =>
          obtain ⟨rw, es, b, ents, clk, q1, q2, q3, q4, q5, q6, q7⟩ := mp_obj hm.heap hv hk
          have hlen := q7.len
          refine Sim.value (v := .int .i64 ents.size) ?_ (Out.same (VE.of (V2.of (V1.of (VA.of (show VP ρ (.i .i64 _) _ from by simp only [mpEs, q1]; rw [hlen, Array.length_toList]; rfl))))) hm)
          simp [execOp, ho, resolve, hcal, ha1, ha2, invoke, builtin, Builtin.len_, run_und hu, q5, MapKept.run_getObj_map q6, goInt]
      · cases h2
    · cases hc
  · cases hc
theorem V1.look {ρ : Rn} {v : AV} {u' : Value} (h : V1 ρ v u') (ok : Bool) (b : Bool) (zero : AV) (r : Option AV) (hr : lkV zero ok r = if ok then .tp [v, .b b] else v) : VE ρ (lkV zero ok r) (if ok then .tuple #[u', .bool b] else u') := by
  rw [hr]
  cases ok
  · exact VE.of (V2.of h)
  · exact (show VE ρ (.tp _) _ from ⟨_, rfl, h, rfl, trivial⟩)
theorem sim_lk {d : Nat} {x k : Opd} {zero : AV} {ks : List Ck} {ok : Bool} (hc : chkOp P (.lk d x k zero ks ok) o.op = true) (hk : mpOk M.h (evT e x) ∧ keyOk ks (mpEs M.h (evT e x)) (evT e k)) (hE : OE P ρ e a [x, k]) (hm : MemR B ρ M w) :
    Sim P o a w (Out B ρ M (lkV zero ok (mpFind (mpEs M.h (evT e x)) (evT e k)))) := by
  simp only [chkOp] at hc
  split at hc
  · rename_i t x' k' ok' ho
    simp only [Bool.and_eq_true, beq_iff_eq] at hc
    obtain ⟨⟨⟨h1, h2⟩, rfl⟩, h3⟩ := hc
    split at h3
    · rename_i el hmt
      split at h3
      · rename_i zv hze
        obtain ⟨kt, c, hu, rfl, hkt⟩ := mapT_und hmt
        obtain ⟨k1, c', k2, k3, k4⟩ := hk
        cases k2
        have hv := hE x x' (by simp) h1
        have hkv0 := hE k k' (by simp) h2
        have hkv : V1 ρ (evT e k) (a.eval k') := hkv0.out (by
          generalize evT e k = kk at k3
          cases c <;> cases kk <;> first | rfl | simp [AV.isCk] at k3)
        have hki := key_is k3 hkv
        have hzero := chkC_sound (ρ := ρ) h3
        have hck : ∀ b, (Instr.checkKey b 10000 kt (a.eval k')).run P w = .ok () w := fun b => MapKept.run_checkKey hkt hki b 9999
        generalize evT e x = vv at k1 k4 hv
        cases vv <;> try exact k1.elim
        case nm =>
          have hv' : a.eval x' = .map none := hv
          have hfk : (Instr.findKey kt (a.eval k') []).run P w = .ok none w := MapKept.run_findKey hkt rfl
          refine Sim.value (v := if ok then .tuple #[zv, .bool false] else zv) ?_ (Out.same (hzero.look ok false zero _ rfl) hm)
          simp [execOp, ho, hv', Instr.lookup, run_und hu, hck, hfk, run_zeT hze]
        case mp id =>
          obtain ⟨rw, es, b, ents, clk, q1, q2, q3, q4, q5, q6, q7⟩ := mp_obj hm.heap hv k1
          simp only [mpEs, q1] at k4 ⊢
          rcases map_find k3 hkv es ents.toList 0 q7 k4 with ⟨f1, f2, -, -⟩ | ⟨j, en, m, f1, f2, f3, f4, f5, -, -⟩
          · have hfk : (Instr.findKey kt (a.eval k') ents.toList).run P w = .ok none w := MapKept.run_findKey hkt f1
            rw [f2]
            refine Sim.value (v := if ok then .tuple #[zv, .bool false] else zv) ?_ (Out.same (hzero.look ok false zero _ rfl) hm)
            simp [execOp, ho, q5, Instr.lookup, run_und hu, MapKept.run_getObj_map q6, hck, hfk, run_zeT hze]
          · have hfk : (Instr.findKey kt (a.eval k') ents.toList).run P w = .ok (some (0 + j, m.val)) w := MapKept.run_findKey hkt f1
            rw [f5]
            obtain ⟨m', g1, g2⟩ := q7.get j en f2
            rw [f3] at g1
            cases g1
            refine Sim.value (v := if ok then .tuple #[m.val, .bool true] else m.val) ?_ (Out.same (V1.look g2.2 ok true zero _ rfl) hm)
            simp [execOp, ho, q5, Instr.lookup, run_und hu, MapKept.run_getObj_map q6, hck, hfk]
      · cases h3
    · cases h3
  · cases hc
/-- A map's block turned. -/
theorem MemR.mapTurn {id b : Nat} {es : List (AV × AV)} {ents ents0 : Array MapEntry} {clk clk0 : Nat} (hm : MemR B ρ M w) (hid : id < M.h.n) (hb : ρ.ob id = some b) (ho : ρ.own b = ownOf true id) (h0 : w.heap[b]? = some (.map ents0 clk0)) (hes : All2 (EntR ρ) es ents.toList) :
    MemR B ρ ⟨M.l, M.g, M.h.set id (.map true es)⟩ { w with heap := w.heap.setIfInBounds b (.map ents clk) } := by
  have h1 := MapKept.heap_set (o' := .map ents clk) h0
  have ho' : ρ.own b = .id id := ho
  refine hm.turn (hm.heap.setMap hid hb ho' h1.1 h1.2 (by simp) hes) (.refl ρ) rfl (fun _ _ => rfl) (by simp) (fun b' hb' hn => h1.2 b' fun e => by rw [e, ho'] at hn; simp at hn) rfl rfl rfl
theorem sim_mu {x k v : Opd} {ks : List Ck} (hc : chkOp P (.mu x k v ks) o.op = true) (hk : mpRw M.h (evT e x) ∧ keyOk ks (mpEs M.h (evT e x)) (evT e k) ∧ (evT e v).outs = true) (hE : OE P ρ e a [x, k, v]) (hm : MemR B ρ M w) :
    Sim P o a w (Out B ρ (mpSet M (mpPut (mpEs M.h (evT e x)) (evT e k) (evT e v)) (evT e x)) .u) := by
  have key : ∃ t x' k' v', (o.op = .mapUpdate t x' k' v' ∨ o.op = .insert t x' k' v') ∧ chkX P x x' = true ∧ chkX P k k' = true ∧ chkX P v v' = true ∧ (mapT P t ks).isSome = true := by
    simp only [chkOp] at hc
    split at hc
    · rename_i t x' k' v' ho
      simp only [Bool.and_eq_true] at hc
      exact ⟨t, x', k', v', .inl ho, hc.1.1.1, hc.1.1.2, hc.1.2, hc.2⟩
    · rename_i t x' k' v' ho
      simp only [Bool.and_eq_true] at hc
      exact ⟨t, x', k', v', .inr ho, hc.1.1.1, hc.1.1.2, hc.1.2, hc.2⟩
    · cases hc
  obtain ⟨t, x', k', v', ho, h1, h2, h3, h4⟩ := key
  obtain ⟨el, hmt⟩ := Option.isSome_iff_exists.1 h4
  obtain ⟨kt, c, hu, rfl, hkt⟩ := mapT_und hmt
  obtain ⟨k1, ⟨c', k2, k3, k4⟩, k5⟩ := hk
  cases k2
  have hv := hE x x' (by simp) h1
  have hkv : V1 ρ (evT e k) (a.eval k') := (hE k k' (by simp) h2).out (by
    generalize evT e k = kk at k3
    cases c <;> cases kk <;> first | rfl | simp [AV.isCk] at k3)
  have hvv := (hE v v' (by simp) h3).out k5
  have hki := key_is k3 hkv
  have hck : ∀ b, (Instr.checkKey b 10000 kt (a.eval k')).run P w = .ok () w := fun b => MapKept.run_checkKey hkt hki b 9999
  have hrun : ∀ w', (Instr.mapUpdate t (a.eval x') (a.eval k') (a.eval v')).run P w = .ok () w' → (execOp a.eval o).run P w = .ok .skip w' := fun w' hr => by
    rcases ho with ho | ho <;> simp [execOp, ho, hr]
  generalize evT e x = vv at k1 k4 hv
  cases vv <;> try exact k1.elim
  case mp id =>
    have k1' : mpOk M.h (.mp id) := by
      simp only [mpRw] at k1
      simp only [mpOk]
      split at k1
      · trivial
      · exact k1.elim
    obtain ⟨rw, es, b, ents, clk, q1, q2, q3, q4, q5, q6, q7⟩ := mp_obj hm.heap hv k1'
    simp only [mpRw, q1] at k1
    subst k1
    simp only [mpEs, q1, mpSet] at k4 ⊢
    rcases map_find k3 hkv es ents.toList 0 q7 k4 with ⟨f1, -, f3, -⟩ | ⟨j, en, m, f1, f2, f3, f4, -, f6, -⟩
    · have hfk : (Instr.findKey kt (a.eval k') ents.toList).run P w = .ok none w := MapKept.run_findKey hkt f1
      rw [f3]
      refine Sim.skip (w' := { w with heap := w.heap.setIfInBounds b (.map (ents.push { key := a.eval k', val := a.eval v', born := clk }) (clk + 1)) }) (hrun _ ?_) ⟨ρ, .refl ρ, trivial, ?_⟩
      · simp [q5, Instr.mapUpdate, run_und hu, MapKept.run_getObj_map q6, hck, hfk, MapKept.run_setObj_map _ q6]
      · exact hm.mapTurn q2 q3 q4 q6 (by rw [Array.toList_push]; exact q7.append ⟨⟨hkv, hvv⟩, trivial⟩)
    · have hfk : (Instr.findKey kt (a.eval k') ents.toList).run P w = .ok (some (0 + j, m.val)) w := MapKept.run_findKey hkt f1
      rw [f6]
      have hj : ents[j]? = some m := by simpa using f3
      refine Sim.skip (w' := { w with heap := w.heap.setIfInBounds b (.map (ents.modify j fun e => { e with key := a.eval k', val := a.eval v' }) clk) }) (hrun _ ?_) ⟨ρ, .refl ρ, trivial, ?_⟩
      · simp [q5, Instr.mapUpdate, run_und hu, MapKept.run_getObj_map q6, hck, hfk, hj, f4, MapKept.run_keyThatStays hki, MapKept.run_setObj_map _ q6]
      · refine hm.mapTurn q2 q3 q4 q6 ?_
        refine All2.of_get (by rw [List.length_set]; have := q7.len; simpa using this) fun i y z hy hz => ?_
        rw [Array.getElem?_toList, Array.getElem?_modify] at hz
        rw [List.getElem?_set] at hy
        by_cases hij : j = i
        · subst hij
          rw [if_pos rfl, hj] at hz
          rw [if_pos rfl] at hy
          split at hy
          · cases hy
            cases hz
            exact ⟨hkv, hvv⟩
          · cases hy
        · rw [if_neg hij] at hz hy
          obtain ⟨z', g1, g2⟩ := q7.get i y hy
          rw [Array.getElem?_toList, hz] at g1
          cases g1
          exact g2
/-! Structs compared. -/
theorem eq_atom {d : Nat} {t : TypeId} {c : Ck} {k k' : AV} {kv kv' : Value} (hu : P.underlying t = some (descOf c)) (hk : k.isCk c = true) (hk' : k'.isCk c = true) (hv : V1 ρ k kv) (hv' : V1 ρ k' kv') :
    (Op.equalIn (d + 1) t kv kv').run P w = .ok (cellEq k k') w := by
  cases c <;> cases k <;> simp [AV.isCk] at hk <;> cases k' <;> simp [AV.isCk] at hk' <;> (have h1 : kv = _ := hv) <;> (have h2 : kv' = _ := hv') <;> subst h1 h2
  · rw [run_equalIn_bool' w d t _ _ hu]; rfl
  · rw [run_equalIn_string w d t _ _ hu]
    congr 1
    rw [Bool.eq_iff_iff]
    simp [cellEq, ByteArray.toList_eq]
  · subst hk hk'
    rw [run_equalIn_int w d t _ _ _ _ hu]; simp [cellEq, BEq.beq, decide_eq_decide]
theorem nT_atom {t : TypeId} {c : Ck} (hu : P.underlying t = some (descOf c)) : nT P t = some none := by
  unfold nT
  rw [hu]
  cases c <;> rfl
theorem ckT_one {t : TypeId} {ks : List Ck} (h : ckT P 1 t = some ks) : ∃ c, ks = [c] ∧ P.underlying t = some (descOf c) := by
  unfold ckT at h
  split at h
  · cases h; exact ⟨.b, rfl, by assumption⟩
  · cases h; exact ⟨.s, rfl, by assumption⟩
  · rename_i k _; cases h; exact ⟨.i k, rfl, by assumption⟩
  · rename_i fs hu
    split at h
    · cases h
    · rename_i hne
      simp only [Bool.or_eq_true, not_or] at hne
      unfold ckFs at h
      split at h
      · rename_i hl
        exact absurd (by simpa using hl) (by simpa using hne.2)
      · rename_i f r _
        split at h
        · cases h
        · simp [ckT] at h
  · cases h
theorem eq_fields {d : Nat} {xs ys : Array Value} {cs ds : List AV} (hx : All2 (VA ρ) cs xs.toList) (hy : All2 (VA ρ) ds ys.toList) : ∀ (fs : List Field) (off : Nat) (ks : List Ck), ckFs P (ckT P 1) off fs = some ks → areCk (cs.drop off) ks = true → areCk (ds.drop off) ks = true →
    (Op.eqFields (d + 1) xs ys fs).run P w = .ok (cellsEq (cs.drop off) (ds.drop off)) w
  | [], off, ks, h, h1, h2 => by
    simp only [ckFs] at h
    cases h
    have e1 : cs.drop off = [] := by cases hh : cs.drop off with | nil => rfl | cons => rw [hh] at h1; simp [areCk] at h1
    have e2 : ds.drop off = [] := by cases hh : ds.drop off with | nil => rfl | cons => rw [hh] at h2; simp [areCk] at h2
    rw [e1, e2]
    simp [Op.eqFields, cellsEq]
  | f :: r, off, ks, h, h1, h2 => by
    unfold ckFs at h
    split at h
    · cases h
    · rename_i hn
      simp only [Bool.or_eq_true, beq_iff_eq, bne_iff_ne, ne_eq, not_or, Decidable.not_not] at hn
      obtain ⟨hname, hoff⟩ := hn
      split at h
      · cases h
      · rename_i k1 hk1
        split at h
        · cases h
        · split at h
          · rename_i q hq
            cases h
            obtain ⟨c, rfl, hu⟩ := ckT_one hk1
            cases hc1 : cs.drop off with
            | nil => rw [hc1] at h1; simp [areCk] at h1
            | cons x xr =>
              cases hd1 : ds.drop off with
              | nil => rw [hd1] at h2; simp [areCk] at h2
              | cons y yr =>
                rw [hc1] at h1
                rw [hd1] at h2
                simp only [List.cons_append, List.nil_append, areCk, Bool.and_eq_true] at h1 h2
                have hlx : off < cs.length := by
                  have := congrArg List.length hc1; simp at this; omega
                have hly : off < ds.length := by
                  have := congrArg List.length hd1; simp at this; omega
                have gx : partOf cs off none = x := by
                  have := congrArg (·[0]?) hc1
                  simp only [List.getElem?_drop, Nat.add_zero, List.getElem?_cons_zero] at this
                  simp [partOf, List.getD, this]
                have gy : partOf ds off none = y := by
                  have := congrArg (·[0]?) hd1
                  simp only [List.getElem?_drop, Nat.add_zero, List.getElem?_cons_zero] at this
                  simp [partOf, List.getD, this]
                obtain ⟨v, r1, r2⟩ := run_part (P := P) (w := w) (nT_atom hu) hx (show partFits cs off none from hlx)
                obtain ⟨v', r3, r4⟩ := run_part (P := P) (w := w) (nT_atom hu) hy (show partFits ds off none from hly)
                rw [gx] at r2
                rw [gy] at r4
                have he := eq_atom (w := w) (d := d) hu h1.1 h2.1 r2 r4
                have ec : cs.drop (off + 1) = xr := by rw [← List.drop_drop, hc1]; rfl
                have ed : ds.drop (off + 1) = yr := by rw [← List.drop_drop, hd1]; rfl
                have ih := eq_fields (d := d) hx hy r (off + 1) q hq (by rw [ec]; exact h1.2) (by rw [ed]; exact h2.2)
                rw [ec, ed] at ih
                rw [Op.eqFields, if_pos hname]
                simp only [Sem.run_bind, hoff, r1, r3, he, Result.andThen_ok, Sem.run_ite]
                cases hce : cellEq x y with
                | true => simp [cellsEq, hce, ih]
                | false => simp [cellsEq, hce]
          · cases h
theorem sim_eqa {d : Nat} {neg : Bool} {ks : List Ck} {x y : Opd} (hc : chkOp P (.eqa d neg ks x y) o.op = true) (hk : okO C e M (.eqa d neg ks x y)) (hE : OE P ρ e a [x, y]) (hm : MemR B ρ M w) :
    Sim P o a w (Out B ρ M (.b (cellsEq (evT e x).cells (evT e y).cells != neg))) := by
  simp only [chkOp] at hc
  split at hc
  · rename_i op' t x' y' yt ho
    simp only [Bool.and_eq_true, beq_iff_eq, Bool.not_eq_true'] at hc
    obtain ⟨⟨⟨⟨⟨ho', h1⟩, h2⟩, h3⟩, h4⟩, h5⟩ := hc
    obtain ⟨xs, ys, e1, e2, a1, a2⟩ := hk
    have hx := hE x x' (by simp) h1
    have hy := hE y y' (by simp) h2
    rw [e1] at hx
    rw [e2] at hy
    obtain ⟨us, ux, uh⟩ := VE.ag hx
    obtain ⟨vs, vx, vh⟩ := VE.ag hy
    split at h4
    · rename_i fs hu
      have hgo : P.stoodInHeld t = false ∧ ckFs P (ckT P 1) 0 fs.toList = some ks := by
        unfold ckT at h3
        rw [hu] at h3
        simp only at h3
        split at h3
        · cases h3
        · rename_i hne
          simp only [Bool.or_eq_true, not_or, Bool.not_eq_true] at hne
          exact ⟨hne.1, h3⟩
      have hfs : P.fieldsOf t = fs := by unfold Program.fieldsOf; rw [hu]
      have hrun : (Op.equalIn 10000 t (.agg us) (.agg vs)).run P w = .ok (cellsEq xs ys) w := by
        have := run_equalIn_struct (P := P) w 9999 t us vs (by rw [hfs]; exact hu) hgo.1
        rw [this, hfs]
        have := eq_fields (P := P) (w := w) (d := 9998) uh vh fs.toList 0 ks hgo.2 (by simpa using a1) (by simpa using a2)
        simpa using this
      rw [e1, e2]
      refine Sim.value (v := .bool (cellsEq xs ys != neg)) ?_ (Out.same (VE.of (V2.of (V1.of (VA.of rfl)))) hm)
      cases neg
      · have ho'' : op' = .eql := by simpa using ho'
        subst ho''
        simp [execOp, ho, ux, vx, run_eqGuard_agg w _ t _ _ _ _ h5, run_eql_struct, hrun]
      · have ho'' : op' = .neq := by simpa using ho'
        subst ho''
        simp [execOp, ho, ux, vx, run_eqGuard_agg w _ t _ _ _ _ h5, run_neq_struct, hrun]
    · cases h4
  · cases hc
/-! Copies. -/
theorem src_runN {z n : Nat} {Y : AV} {v : Value} (hm : MemR B ρ M w) (hy : VE ρ Y v) (hk : srcC M z Y) (hn : n ≤ (srcV M Y).length) :
    ∃ cells : List Value, (Builtin.firstCells z n v).run P w = .ok cells.toArray w ∧ All2 (VA ρ) (flat ((srcV M Y).take n)) cells := by
  cases Y <;> simp only [srcC] at hk <;> try (exact (show False from hk.1).elim)
  case s l =>
    subst hk
    have hv : v = .string ⟨l.toArray⟩ := hy
    subst hv
    refine ⟨(l.take n).map fun b => Value.int .u8 b.toNat, ?_, ?_⟩
    · have hx : (⟨l.toArray⟩ : ByteArray).extract 0 n = ⟨(l.take n).toArray⟩ := by
        apply ByteArray.ext
        apply Array.ext'
        simp [ByteArray.data_extract]
      simp [Builtin.firstCells, hx]
    · show All2 (VA ρ) (flat ((encB l).take n)) _
      have : (encB l).take n = encB (l.take n) := by simp [encB, List.map_take]
      rw [this, encB_cells]; exact encB_rel (l.take n)
  case ns =>
    have hv : v = .slice none 0 0 := hy
    subst hv
    exact ⟨[], by simp [Builtin.firstCells], by simp [srcV, slEls, flat, All2]⟩
  case sl id ix len =>
    obtain ⟨rw', st, z', xs, b, off, cap, c, ty, fz, q1, q2, q3, q4, q5, q6, q7⟩ := read_sl hm.heap (hy : VP ρ (.sl ..) _) hk.1
    have hzz : z' = z := by have := hk.2; simp only [slZ, q1] at this; exact this
    subst hzz
    have hin := hk.1
    simp only [slOk, q1] at hin
    have hs : srcV M (.sl id ix len) = slEls M.h (.sl id ix len) := rfl
    have hl : (slEls M.h (.sl id ix len)).length = len := by simp [slEls, q1]; omega
    rw [hs] at hn ⊢
    rw [hl] at hn
    have hz' : ∀ x, x ∈ slEls M.h (.sl id ix len) → x.cells.length = z' := fun x hx => by
      simp only [slEls, q1] at hx
      exact q2 x (List.mem_of_mem_drop (List.mem_of_mem_take hx))
    refine ⟨(c.toList.drop off).take (n * z'), ?_, ?_⟩
    · have hmul : n * z' ≤ cap * z' := Nat.mul_le_mul_right _ (by omega)
      have hz0 : cap = 0 → cap * z' = 0 := fun h => by rw [h, Nat.zero_mul]
      have := run_loadRow (P := P) (w := w) (n := n * z') (off := off) q5 (by omega)
      rw [q3]
      simpa [Builtin.firstCells] using this
    · have := q7.take (n * z')
      rw [← flat_take _ hz', List.take_take, Nat.min_eq_left (Nat.mul_le_mul_right _ hn)] at this
      exact this
  case ll t g z' len =>
    obtain ⟨h1, h2, rfl⟩ := hk
    obtain ⟨b, q1, rfl⟩ := hy
    obtain ⟨hz, c, ty, v1, v2, v3⟩ := loc_cells hm q1 h1
    have hs : srcV M (.ll t g z' len) = M.getL t g 0 := rfl
    rw [hs] at hn ⊢
    have hmul : n * z' ≤ (M.getL t g 0).length * z' := Nat.mul_le_mul_right _ hn
    refine ⟨c.toList.take (n * z'), ?_, ?_⟩
    · have := run_loadRow (P := P) (w := w) (n := n * z') (off := 0) v1 (by rw [v2]; omega)
      rw [List.drop_zero] at this
      simpa [Builtin.firstCells] using this
    · have := v3.take (n * z')
      rwa [← flat_take _ hz] at this
theorem sim_cp {d z : Nat} {x y : Opd} (hc : chkOp P (.cp d x y z) o.op = true) (hk : cpC M z (evT e y) (evT e x)) (hE : OE P ρ e a [x, y]) (hm : MemR B ρ M w) :
    Sim P o a w (Out B ρ (cpM M (evT e y) (evT e x)) (.i .i64 (cpN M (evT e y) (evT e x)))) := by
  simp only [chkOp] at hc
  split at hc
  · rename_i c ho
    split at hc
    · rename_i x' y' t tys hcal hargs htys
      simp only [Bool.and_eq_true, bne_iff_ne] at hc
      obtain ⟨⟨⟨h1, h2⟩, hz0⟩, h4⟩ := hc
      have ha1 : c.args = #[x', y'] := by have := congrArg List.toArray hargs; simpa using this
      have ha2 : c.argTypes[0]? = some t := by
        have := congrArg (·[0]?) htys
        simpa using this
      split at h4
      · rename_i el hel
        have hsz : szT P el = some z := by simpa using h4
        have hu := elT_und hel
        have hx := hE x x' (by simp) h1
        have hy := hE y y' (by simp) h2
        have key : ∀ {v : Value} {w' : World} {M' : Mem} {r : AV}, (Builtin.copy_ c.argTypes o.type #[a.eval x', a.eval y']).run P w = .ok v w' → Out B ρ M' r v w' → Sim P o a w (Out B ρ M' r) := by
          intro v w' M' r hr ho'
          refine Sim.value (v := v) (w' := w') ?_ ho'
          simp [execOp, ho, resolve, hcal, ha1, invoke, builtin, hr]
        generalize evT e x = X at *
        generalize evT e y = Y at *
        obtain ⟨hsrc, hdst⟩ := hk
        obtain ⟨cells0, s1, -, -, s4⟩ := src_run (P := P) hm hy hsrc
        cases X <;> simp only at hdst
        case ns =>
          have hx' : a.eval x' = .slice none 0 0 := hx
          obtain ⟨cells, f1, f2⟩ := src_runN (P := P) (n := 0) hm hy hsrc (Nat.zero_le _)
          refine key (v := .int .i64 0) (w' := w) ?_ (Out.same (VE.of (V2.of (V1.of (VA.of (show VP ρ (.i .i64 _) _ from rfl))))) hm)
          simp [Builtin.copy_, ha2, hx', run_und hu, s1, run_sizeT hsz, f1, goInt]
        case sl id ix len =>
          obtain ⟨p, q1, q2, q3, off, cap, q4, q5, q6, hx'⟩ := (hx : VP ρ (.sl ..) _)
          have hid := pl_lt hm.heap q1
          split at hdst
          · rename_i rw' st z' xs hob
            obtain ⟨rfl, rfl, hend, hle⟩ := hdst
            obtain ⟨hz, p0, rest, hA, r1, r2, r3, r4, r5, r6⟩ := pl_obj hm.heap q1 hob
            have hpp : p = p0 := by
              rcases hend with h | h
              · exact r6 h
              · exact r4 (by omega)
            subst hpp
            have hxx := hA.hx
            have hN : cpN M Y (.sl id ix len) = min (srcV M Y).length len := rfl
            have hN1 : min (srcV M Y).length len ≤ (srcV M Y).length := Nat.min_le_left _ _
            have hN2 : min (srcV M Y).length len ≤ len := Nat.min_le_right _ _
            obtain ⟨cells, f1, f2⟩ := src_runN (P := P) hm hy hsrc hN1
            generalize hn : min (srcV M Y).length len = n at *
            simp only [cpM, hob, hN]
            have hcl : cells.length = n * z' := by
              rw [← f2.len, flat_len fun q hq => s4 q (List.mem_of_mem_take hq), List.length_take, Nat.min_eq_left hN1]
            by_cases hn0 : n = 0
            · rw [if_pos hn0]
              have hc0 : cells = [] := List.eq_nil_of_length_eq_zero (by rw [hcl, hn0, Nat.zero_mul])
              refine key (v := .int .i64 n) (w' := w) ?_ (Out.same (VE.of (V2.of (V1.of (VA.of (show VP ρ (.i .i64 _) _ from rfl))))) hm)
              have hmin : Nat.min (srcV M Y).length len = n := hn
              subst hc0
              simp [Builtin.copy_, ha2, hx', run_und hu, s1, run_sizeT hsz, hmin, f1, goInt, storeCells]
            · rw [if_neg hn0]
              obtain ⟨cc, ty, fz, v1, v2, v3, v4, v5⟩ := hA.hv
              have hown := hA.hown p (by simp)
              have hown2 : ρ.own p.b = .id id := hown.2
              have hoff : off = p.o + (ix - p.s) * z' := by
                rcases q5 with q5 | ⟨q5, q5'⟩
                · rw [r1] at q5; exact q5
                · omega
              rw [r1, hxx] at v4 v5
              have hccl : cc.toList.length = p.c := by rw [Array.length_toList]; exact v2
              have hb1 : (ix - p.s) * z' + n * z' ≤ (xs.length - p.s) * z' := by rw [← Nat.add_mul]; exact Nat.mul_le_mul_right _ (by omega)
              have hone := f2.ones
              have hst := run_storeRow (P := P) (off := off) cells 0 v1 (fun j hj => v3 rfl j (by omega)) (by rw [hcl]; omega) hone
              rw [Nat.add_zero] at hst
              have hsp : (splice cc.toList off cells).length = cc.size := by rw [splice_len (by rw [hcl, hccl]; omega), Array.length_toList]
              have hother : ∀ b, b ≠ p.b → (w.setRow p.b (splice cc.toList off cells).toArray).heap[b]? = w.heap[b]? := fun b hb => setRow_other w p.b b _ hb
              have hlen' : (xs.take ix ++ (srcV M Y).take n ++ xs.drop (ix + n)).length = xs.length := by simp; omega
              have htk : ((srcV M Y).take n).length = n := by simp; omega
              have hh := hm.heap.setArr (xs' := xs.take ix ++ (srcV M Y).take n ++ xs.drop (ix + n)) (w' := w.setRow p.b (splice cc.toList off cells).toArray) hid hA (setRow_heap w p.b cc _ ty fz v1) (by rw [List.size_toArray, hsp, v2]) (v3 rfl) hother (by simp) hlen'
                (fun q hq => by
                  simp only [List.mem_append] at hq
                  rcases hq with (hq | hq) | hq
                  · exact hz q (List.mem_of_mem_take hq)
                  · exact s4 q (List.mem_of_mem_take hq)
                  · exact hz q (List.mem_of_mem_drop hq))
                (fun q hq => by
                  rw [flat_append, flat_append] at hq
                  simp only [List.mem_append] at hq
                  rcases hq with (hq | hq) | hq
                  · rw [flat_take _ hz] at hq; exact hA.hcl q (List.mem_of_mem_take hq)
                  · exact f2.ex q hq
                  · rw [flat_drop _ hz] at hq; exact hA.hcl q (List.mem_of_mem_drop hq)) (by
                  have hzt : ∀ q, q ∈ (srcV M Y).take n → q.cells.length = z' := fun q hq => s4 q (List.mem_of_mem_take hq)
                  have e1 : (xs.take ix ++ (srcV M Y).take n ++ xs.drop (ix + n)).drop p.s = splice (xs.drop p.s) (ix - p.s) ((srcV M Y).take n) := by
                    have := splice_drop (l := xs) (k := ix - p.s) (o := p.s) (m := (srcV M Y).take n) (by omega)
                    rw [show p.s + (ix - p.s) = ix by omega] at this
                    rw [← this]
                    simp only [splice, htk]
                  have e2 : flat (splice (xs.drop p.s) (ix - p.s) ((srcV M Y).take n)) = splice (flat (xs.drop p.s)) ((ix - p.s) * z') (flat ((srcV M Y).take n)) := by
                    have hzd : ∀ q, q ∈ xs.drop p.s → q.cells.length = z' := fun q hq => hz q (List.mem_of_mem_drop hq)
                    simp only [splice, flat_append, flat_take _ hzd, htk, flat_len hzt]
                    rw [flat_drop _ hzd, Nat.add_mul]
                  rw [e1, e2, List.toList_toArray, hoff, splice_drop (by rw [hccl]; omega), hxx, r1, splice_take (by rw [hcl]; omega) (by simp; omega)]
                  have ht' : told p xs = xs.drop p.s := by simp only [told]; rw [List.take_of_length_le (by omega)]
                  rw [ht'] at v5
                  exact v5.splice f2)
              refine key (v := .int .i64 n) (w' := w.setRow p.b (splice cc.toList off cells).toArray) ?_ ⟨ρ, .refl ρ, VE.of (V2.of (V1.of (VA.of (show VP ρ (.i .i64 _) _ from rfl)))), ?_⟩
              · have hmin : Nat.min (srcV M Y).length len = n := hn
                simp [Builtin.copy_, ha2, hx', run_und hu, s1, run_sizeT hsz, hmin, f1, goInt, hst]
              · exact hm.turn hh (.refl ρ) rfl (fun _ _ => rfl) (by simp) (fun b hb hn => hother b fun e => by rw [e, hown2] at hn; simp at hn) rfl rfl rfl
          · exact hdst.elim
        all_goals exact hdst.elim
      · cases h4
    · cases hc
  · cases hc
end ops
end Go.Vm
/- What an operation of the abstract machine means for Go's own: calls; all operations. -/
namespace Go.Vm
set_option linter.unusedVariables false
set_option linter.unusedSimpArgs false
/-- What a call leaves as it was. -/
structure Stp (ρ : Rn) (w : World) (ρ' : Rn) (w' : World) : Prop where
  le : ρ.Le ρ'
  own : ∀ b, b < w.heap.size → ρ'.own b = ρ.own b
  frame : ∀ b, b < w.heap.size → ρ.own b = .no ∨ ρ.own b = .loc → w'.heap[b]? = w.heap[b]?
  sz : w.heap.size ≤ w'.heap.size
  os : w'.os = w.os
  tape : w'.tape = w.tape
  out : w'.output = w.output
def Globs (ρ : Rn) (G : Nat) : Prop := ∀ g, g < G → ∃ p, p ∈ ρ.pl g ∧ p.b = g ∧ p.o = 0 ∧ p.s = 0
def Back (ρ : Rn) (w : World) (v : AV) (H' : AH) : Ending → World → Prop
  | .returned r, w' => ∃ ρ', Stp ρ w ρ' w' ∧ V2 ρ' v r ∧ HeapR ρ' H' w'
  | _, _ => False
/-- What a table says of a function holds of it. -/
def TabOK (P : Program) (C : Tab) : Prop :=
  ∀ f args H v H', C f args H = some (v, H') → (∃ fn, P.funcs[f]? = some fn ∧ (fn.name == "runtime.NumGoroutine") = false ∧ fn.body.isNone = false) ∧
    ∀ ρ w rargs, HeapR ρ H w → Globs ρ P.globals.size → All2 (V1 ρ) args rargs.toList → Calls P f rargs w (Back ρ w v H')
def sup : O → Bool
  | .mm .. | .dl .. | .gd .. => false
  | _ => true
def opds : O → List Opd
  | .mv _ x | .un _ _ x | .nl _ _ _ x | .ci _ _ x | .cbs _ x | .csb _ x | .ex _ x _ | .fd _ x _ _ | .sla _ x _ _ | .ln _ x | .lns _ x | .lnm _ x | .bx _ x | .lbx _ x | .ld _ x _ | .fa _ x _ | .mk _ _ _ _ x | .nc _ x | .rs _ x | .nx _ x => [x]
  | .pk _ c a b => [c, a, b]
  | .bn _ _ x y | .be _ _ x y | .eqa _ _ _ x y | .ix _ x y | .ixa _ x y _ _ _ | .st x y _ | .ia _ x y _ | .iaa _ x y _ _ | .ap _ x y _ _ | .cp _ x y _ | .mm _ _ x y | .lk _ x y _ _ _ | .dl x y _ => [x, y]
  | .mu x y z _ => [x, y, z]
  | .bd _ _ parts => opdsP parts
  | .bs _ _ _ _ parts | .lbs _ _ _ _ parts => opdsE parts
  | .ss _ x lo hi | .sl _ x lo hi _ => x :: (lo.toList ++ hi.toList)
  | .cl _ _ xs => xs
  | .cv _ x xs => x :: xs
  | .mf _ _ xs => xs
  | .al .. | .lal .. | .mkm .. | .gd .. => []
section ops
variable {P : Program} {B : Base} {C : Tab} {ρ : Rn} {M : Mem} {w : World} {e : Env} {a : Act} {o : Oper}
theorem args_rel {ρ : Rn} : ∀ {xs : List Opd} {ys : List Operand}, chkXs P xs ys = true → OE P ρ e a xs → allOut (evs e xs) = true → All2 (V1 ρ) (evs e xs) (ys.map a.eval)
  | [], [], _, _, _ => trivial
  | x :: r, y :: q, hc, hE, ho => by
    simp only [chkXs, Bool.and_eq_true] at hc
    simp only [evs, allOut, Bool.and_eq_true] at ho
    exact ⟨(hE x y (by simp) hc.1).out ho.1, args_rel hc.2 (fun y z hy => hE y z (by simp [hy])) ho.2⟩
  | [], _ :: _, hc, _, _ => by simp [chkXs] at hc
  | _ :: _, [], hc, _, _ => by simp [chkXs] at hc
/-- Behind a call. -/
theorem MemR.back {H' : AH} {ρ' : Rn} {w' : World} (hm : MemR B ρ M w) (hs : Stp ρ w ρ' w') (hh : HeapR ρ' H' w') :
    ρ.LeL { ρ' with lo := ρ.lo } ∧ MemR B { ρ' with lo := ρ.lo } ⟨M.l, M.g, H'⟩ w' := by
  have hle : ρ.LeL { ρ' with lo := ρ.lo } := ⟨⟨hs.le.pl, hs.le.ob⟩, fun _ _ _ h => h⟩
  refine ⟨hle, hm.turn ?_ hle rfl hs.own hs.sz hs.frame hs.os hs.tape hs.out⟩
  exact hh.of ⟨fun _ p h => ⟨p, h, rfl, rfl, rfl, rfl, rfl, Nat.le_refl _⟩, fun _ _ h => h⟩ rfl rfl (Nat.le_refl _) (fun _ _ _ => ⟨rfl, rfl⟩) hh.bnd fun _ _ h => h
theorem sim_call {d : Option Nat} {x : O} {f : Nat} {rargs : Array Value} {vs : List AV} (hC : TabOK P C) (hG : B.G = P.globals.size) (hr : (execOp a.eval o).run P w = (callFunc f rargs).run P w)
    (hk : isOk (C f vs M.h)) (hv : All2 (V1 ρ) vs rargs.toList) (hm : MemR B ρ M w) : Sim P o a w (Out B ρ ⟨M.l, M.g, rh M.h (C f vs M.h)⟩ (rv (C f vs M.h))) := by
  cases hCf : C f vs M.h with
  | none => rw [hCf] at hk; exact hk.elim
  | some r =>
    obtain ⟨v, H'⟩ := r
    obtain ⟨⟨fn, hf, hname, hbody⟩, hcall⟩ := hC f vs M.h v H' hCf
    intro next Q hn
    unfold Oper.wp
    have hrun : (callFunc f rargs).run P w = .ok (.enter f rargs) w := by
      have h1 : ¬ fn.name = "runtime.NumGoroutine" := by simpa using hname
      have h2 : ¬ fn.body = none := by intro h; rw [h] at hbody; cases hbody
      simp [callFunc, hf, h1, h2]
    rw [hr, hrun, Oper.upon_enter]
    refine (hcall ρ w rargs hm.heap (by rw [← hG]; exact hm.glob) hv).mono fun e w' hR => ?_
    cases e with
    | returned r =>
      obtain ⟨ρ', hs, hv', hh⟩ := hR
      obtain ⟨h1, h2⟩ := hm.back hs hh
      have hle : ρ'.Le { ρ' with lo := ρ.lo } := ⟨fun _ p h => ⟨p, h, rfl, rfl, rfl, rfl, rfl, Nat.le_refl _⟩, fun _ _ h => h⟩
      exact hn _ _ ⟨_, h1, VE.of (V2.mono hle hv'), h2⟩
    | panicked _ => exact hR.elim
    | outgrown => exact hR.elim
theorem sim_cl {d : Option Nat} {f : Nat} {xs : List Opd} (hC : TabOK P C) (hG : B.G = P.globals.size) (hc : chkOp P (.cl d f xs) o.op = true) (hk : allOut (evs e xs) = true ∧ isOk (C f (evs e xs) M.h)) (hE : OE P ρ e a xs) (hm : MemR B ρ M w) :
    Sim P o a w (Out B ρ ⟨M.l, M.g, rh M.h (C f (evs e xs) M.h)⟩ (rv (C f (evs e xs) M.h))) := by
  simp only [chkOp] at hc
  split at hc
  · rename_i c ho
    split at hc
    · rename_i g hcal
      simp only [Bool.and_eq_true, beq_iff_eq] at hc
      obtain ⟨rfl, h1⟩ := hc
      refine sim_call (x := .cl d f xs) (d := d) (f := f) (rargs := c.args.map a.eval) hC hG ?_ hk.2 (by rw [Array.toList_map]; exact args_rel h1 hE hk.1) hm
      simp only [execOp, ho, resolve, hcal, Act.eval, Deferred.ofValue, Sem.run_bind, Sem.run_pure, Result.andThen_ok, invoke]
      simp
    · cases hc
  · cases hc
theorem sim_cv {d : Option Nat} {x : Opd} {xs : List Opd} (hC : TabOK P C) (hG : B.G = P.globals.size) (hc : chkOp P (.cv d x xs) o.op = true) (hk : okO C e M (.cv d x xs)) (hE : OE P ρ e a (x :: xs)) (hm : MemR B ρ M w) :
    Sim P o a w (Out B ρ (mmO C e M (.cv d x xs)) (vlO C e M (.cv d x xs))) := by
  simp only [chkOp] at hc
  split at hc
  · rename_i c ho
    split at hc
    · rename_i y hcal
      simp only [Bool.and_eq_true] at hc
      obtain ⟨h1, h2⟩ := hc
      obtain ⟨⟨f, cs, hx⟩, k1, k2⟩ := hk
      have hv := hE x y (by simp) h1
      rw [hx] at hv
      obtain ⟨rc, r1, r2⟩ := (hv : VA ρ (.fn f cs) _)
      simp only [hx] at k2
      simp only [vlO, mmO, hx]
      refine sim_call (x := .cv d x xs) (d := d) (f := f) (rargs := c.args.map a.eval ++ rc) hC hG ?_ k2 (by
        rw [Array.toList_append, Array.toList_map]
        exact All2.append (args_rel h2 (fun y z hy => hE y z (by simp [hy])) k1) (r2.mono fun _ _ h => V1.of (VA.of h))) hm
      simp only [execOp, ho, resolve, hcal, r1, Deferred.ofValue, Sem.run_bind, Sem.run_pure, Result.andThen_ok, invoke]
      simp
    · cases hc
  · cases hc
theorem sim_op {x : O} (hC : TabOK P C) (hG : B.G = P.globals.size) (hs : sup x = true) (hc : chkOp P x o.op = true) (hk : okO C e M x) (hE : OE P ρ e a (opds x)) (hm : MemR B ρ M w) :
    Sim P o a w (Out B ρ (mmO C e M x) (vlO C e M x)) := by
  cases x <;> first | (exact absurd hs Bool.false_ne_true) | skip
  case mv => exact sim_mv hc hE hm
  case pk => exact sim_pk hc hk hE hm
  case bn => exact sim_bn hc hk hE hm
  case un => exact sim_un hc hk hE hm
  case be => exact sim_be hc hk hE hm
  case nl => exact sim_nl hc hk hE hm
  case ci => exact sim_ci hc hk hE hm
  case cbs => exact sim_cbs hc hk hE hm
  case csb => exact sim_csb hc hk hE hm
  case ex => exact sim_ex hc hk hE hm
  case bd => exact sim_bd hc hk hE hm
  case fd => exact sim_fd hc hk hE hm
  case ix => exact sim_ix hc hk hE hm
  case ixa => exact sim_ixa hc hk hE hm
  case ss => exact sim_ss hc hk hE hm
  case sl => exact sim_sl hc hk hE hm
  case ln => exact sim_ln hc hk hE hm
  case lns => exact sim_lns hc hk hE hm
  case al => exact sim_al hc hm
  case bx => exact sim_bx hc hk hE hm
  case lal => exact sim_lal hc hm
  case lbx => exact sim_lbx hc hk hE hm
  case ld => exact sim_ld hc hk hE hm
  case st => exact sim_st hc hk hE hm
  case fa => exact sim_fa hc hk hE hm
  case ia => exact sim_ia hc hk hE hm
  case iaa => exact sim_iaa hc hk hE hm
  case bs => exact sim_bs hc hk hE hm
  case lbs => exact sim_lbs hc hk hE hm
  case mk => exact sim_mk hc hk hE hm
  case ap => exact sim_ap hc hk hE hm
  case cl => exact sim_cl hC hG hc hk hE hm
  case cv => exact sim_cv hC hG hc hk hE hm
  case nc => exact sim_nc hc hk hE hm
  case mf => exact sim_mf hc hk hE hm
  case sla => exact sim_sla hc hk hE hm
  case lnm => exact sim_lnm hc hk hE hm
  case mkm => exact sim_mkm hc hm
  case lk => exact sim_lk hc hk hE hm
  case mu => exact sim_mu hc hk hE hm
  case rs => exact sim_rs hc hk hE hm
  case nx => exact sim_nx hc hk hE hm
  case eqa => exact sim_eqa hc hk hE hm
  case cp => exact sim_cp hc hk hE hm
end ops
end Go.Vm
/- Regions that run in their text's order. -/
namespace Go.Vm
set_option linter.unusedVariables false
set_option linter.unusedSimpArgs false
structure StR (B : Base) (N : Nat) (ρ : Rn) (e : Env) (M : Mem) (a : Act) (w : World) : Prop where
  env : ∀ t, VE ρ (look e t) (a.tmps.getD t undef)
  mem : MemR B ρ M w
  dfr : a.defers = []
  sz : N ≤ a.tmps.size
def Ex (B : Base) (N : Nat) (e : Env) (M : Mem) (a : Act) (w : World) : Prop := ∃ ρ, StR B N ρ e M a w
def dOk (N : Nat) : Option Nat → Bool
  | some d => decide (d < N)
  | none => true
def okD (N : Nat) : O → Bool
  | .gd _ _ y => sup y && dOk N (dsO y)
  | y => sup y && dOk N (dsO y)
def isGd : O → Bool
  | .gd .. => true
  | _ => false
section
variable {P : Program} {B : Base} {C : Tab} {ρ : Rn} {M : Mem} {w : World} {e : Env} {a : Act} {o : Oper} {N : Nat}
theorem getD_set (tmps : Array Value) (d t : Nat) (v : Value) (h : d < tmps.size) : (tmps.setIfInBounds d v).getD t undef = if d = t then v else tmps.getD t undef := by
  simp only [Array.getD_eq_getD_getElem?, Array.getElem?_setIfInBounds]
  by_cases e : d = t
  · subst e; simp [h]
  · simp [e]
/-- A place written. -/
theorem StR.put {ρ' : Rn} {M' : Mem} {w' : World} {ds : Option Nat} {x : AV} {v : Value} (h : StR B N ρ e M a w) (hd : dOk N ds = true) (hl : ρ.LeL ρ') (hv : VE ρ' x v) (hm : MemR B ρ' M' w') : StR B N ρ' (putE ds x e) M' (a.put ds v) w' := by
  cases ds with
  | none => exact ⟨fun t => (h.env t).mono hl, hm, h.dfr, h.sz⟩
  | some d =>
    have hlt : d < N := by simpa [dOk] using hd
    have hsz := h.sz
    refine ⟨fun t => ?_, hm, h.dfr, by simpa [Act.put] using h.sz⟩
    simp only [Act.put, putE, look]
    rw [getD_set _ _ _ _ (by omega)]
    by_cases ht : d = t
    · rw [if_pos ht, if_pos ht]; exact hv
    · rw [if_neg ht, if_neg ht]; exact (h.env t).mono hl
theorem chkO_ng {x : O} (h : isGd x = false) : chkO P x o = (o.guard.isNone && o.dst == dsO x && chkOp P x o.op) := by
  cases x <;> first | rfl | cases h
theorem doOs_ng {x : O} {l : List O} {κ : Env → Mem → Prop} (h : isGd x = false) : doOs C (x :: l) e M κ = (okO C e M x ∧ doOs C l (putE (dsO x) (vlO C e M x) e) (mmO C e M x) κ) := by
  cases x <;> first | rfl | cases h
theorem doPs_ng {x : O} {i : Nat} {lg : List Lg} {cf : List Nat} {kp : Bool} {l : List PO} {κ : Env → Mem → Prop} (h : isGd x = false) :
    doPs C i lg (⟨x, cf, kp⟩ :: l) e M κ = (okO C e M x ∧ cfC C lg x e M cf ∧ doPs C (i + 1) (lgPut kp i x e M lg) l (putE (dsO x) (vlO C e M x) e) (mmO C e M x) κ) := by
  cases x <;> first | rfl | cases h
theorem okD_ng {x : O} (h : isGd x = false) : okD N x = (sup x && dOk N (dsO x)) := by
  cases x <;> first | rfl | cases h
theorem gd_or (x : O) : (∃ t b y, x = .gd t b y) ∨ isGd x = false := by
  cases x <;> first | exact .inl ⟨_, _, _, rfl⟩ | exact .inr rfl
theorem OE_of (hE : ∀ t, VE ρ (look e t) (a.tmps.getD t undef)) (hm : MemR B ρ M w) (hG : B.G = P.globals.size) (l : List Opd) : OE P ρ e a l :=
  fun _ _ _ hc => chkX_sound hm hG hc fun t _ => hE t
/-- One operation. -/
theorem step_ok {x : O} {next : Act → World → Prop} {Q : Exit → Act → World → Prop} (hC : TabOK P C) (hG : B.G = P.globals.size) (hs : sup x = true) (hd : dOk N (dsO x) = true) (hds : o.dst = dsO x) (hc : chkOp P x o.op = true) (hk : okO C e M x) (h : StR B N ρ e M a w)
    (hn : ∀ a' w', Ex B N (putE (dsO x) (vlO C e M x) e) (mmO C e M x) a' w' → next a' w') : o.wp P a w next Q := by
  refine sim_op hC hG hs hc hk (OE_of h.env h.mem hG _) h.mem next Q fun v w' ⟨ρ', h1, h2, h3⟩ => hn _ _ ⟨ρ', ?_⟩
  rw [hds]
  exact h.put hd h1 h2 h3
theorem yield_of {ops : Array Oper} {tmps : Array Value} {j t : Nat} {p : Oper} {b : Bool} (hp : ops[j]? = some p) (hd : p.dst = some t) (hv : tmps.getD t undef = .bool b) : yielded ops tmps j = some b := by
  have ht : tmps[t]? = some (.bool b) := by
    rw [Array.getD_eq_getD_getElem?] at hv
    cases hx : tmps[t]? with
    | none => rw [hx] at hv; cases hv
    | some y => rw [hx] at hv; exact congrArg some hv
  simp [yielded, hp, hd, ht]
/-- A guard's word. -/
theorem wanted_gd {ops : Array Oper} {t : Nat} {b : Bool} {y : O} (hc : chkO P (.gd t b y) o = true) (hg : chkG ops (.gd t b y) o = true) {b' : Bool} (hv : a.tmps.getD t undef = .bool b') : Region.wanted o (yielded ops a.tmps) = (b' == b) := by
  simp only [chkO, Bool.and_eq_true, beq_iff_eq] at hc
  obtain ⟨⟨⟨h1, h2⟩, h3⟩, -⟩ := hc
  unfold chkG at hg
  cases hgd : o.guard with
  | none => rw [hgd] at h1; cases h1
  | some jb =>
    obtain ⟨j, b2⟩ := jb
    rw [hgd] at h1 hg
    have hb : b = b2 := by simpa using h1
    subst hb
    simp only at hg
    cases hp : ops[j]? with
    | none => rw [hp] at hg; cases hg
    | some p =>
      rw [hp] at hg
      have hd : p.dst = some t := by simpa using hg
      simp only [Region.wanted, hgd, yield_of hp hd hv]
      cases b <;> cases b' <;> rfl
theorem wanted_off {ops : Array Oper} {t : Nat} {b : Bool} {y : O} (hc : chkO P (.gd t b y) o = true) (hg : chkG ops (.gd t b y) o = true) (hv : a.tmps.getD t undef = .tuple #[]) : Region.wanted o (yielded ops a.tmps) = false := by
  simp only [chkO, Bool.and_eq_true, beq_iff_eq] at hc
  obtain ⟨⟨⟨h1, h2⟩, h3⟩, -⟩ := hc
  unfold chkG at hg
  cases hgd : o.guard with
  | none => rw [hgd] at h1; cases h1
  | some jb =>
    obtain ⟨j, b2⟩ := jb
    rw [hgd] at hg
    simp only at hg
    cases hp : ops[j]? with
    | none => rw [hp] at hg; cases hg
    | some p =>
      rw [hp] at hg
      have hd : p.dst = some t := by simpa using hg
      have hy : yielded ops a.tmps j = none := by
        rw [Array.getD_eq_getD_getElem?] at hv
        unfold yielded
        rw [hp]
        simp only [Option.bind_some, hd]
        cases hx : a.tmps[t]? with
        | none => rfl
        | some y => rw [hx] at hv; simp only [Option.getD_some] at hv; rw [hv]
      simp [Region.wanted, hgd, hy]
theorem isG_or {v : AV} (h : v.isG = true) : v.isB = true ∨ v = .tp [] := by
  cases v <;> try exact absurd h Bool.false_ne_true
  · exact .inl rfl
  · rename_i xs
    cases xs with
    | nil => exact .inr rfl
    | cons => exact absurd h Bool.false_ne_true
theorem VE.undef {ρ : Rn} : VE ρ (.tp []) Go.undef := ⟨#[], rfl, trivial⟩
theorem VE.tp0 {ρ : Rn} {v : Value} (h : VE ρ (.tp []) v) : v = .tuple #[] := by
  obtain ⟨ys, rfl, h⟩ := h
  have h' : All2 (V1 ρ) [] ys.toList := h
  cases hy : ys.toList with
  | nil => rw [show ys = #[] from by simpa using hy]
  | cons a l => rw [hy] at h'; exact h'.elim
theorem wanted_ng {ops : Array Oper} {x : O} (hx : isGd x = false) (hc : chkO P x o = true) : Region.wanted o (yielded ops a.tmps) = true := by
  rw [chkO_ng hx] at hc
  simp only [Bool.and_eq_true] at hc
  have : o.guard = none := by simpa using hc.1.1
  simp [Region.wanted, this]
theorem chkO_in {t : Nat} {b : Bool} {y : O} (hc : chkO P (.gd t b y) o = true) : o.dst = dsO y ∧ chkOp P y o.op = true := by
  simp only [chkO, Bool.and_eq_true, beq_iff_eq] at hc
  exact ⟨hc.1.1.2, hc.1.2⟩
theorem bool_of (h : StR B N ρ e M a w) {t : Nat} (hb : (look e t).isB = true) : ∃ b, look e t = .b b ∧ a.tmps.getD t undef = .bool b := (h.env t).bool hb
def okDs (N : Nat) : List O → Bool
  | [] => true
  | x :: r => okD N x && okDs N r
theorem text_go {ops : Array Oper} {Q : Exit → Act → World → Prop} {κ : Env → Mem → Prop} (hC : TabOK P C) (hG : B.G = P.globals.size) (hQ : ∀ e M a w, κ e M → Ex B N e M a w → Q .normal a w) :
    ∀ (l : List O) (i : Nat) (e : Env) (M : Mem) (a : Act) (w : World), chkOs P ops l (ops.toList.drop i) = true → okDs N l = true → doOs C l e M κ → Ex B N e M a w → wpOps P ops Q (List.range' i l.length) a w
  | [], i, e, M, a, w, _, _, hk, h => hQ e M a w hk h
  | x :: l, i, e, M, a, w, hc, hd, hk, ⟨ρ, h⟩ => by
    cases hdr : ops.toList.drop i with
    | nil => rw [hdr] at hc; cases hc
    | cons o r =>
      rw [hdr] at hc
      simp only [chkOs, Bool.and_eq_true] at hc
      simp only [okDs, Bool.and_eq_true] at hd
      obtain ⟨⟨c1, c2⟩, c3⟩ := hc
      have hget : ops[i]? = some o := by
        have : ops.toList[i]? = some o := by
          have := congrArg (·[0]?) hdr
          simpa using this
        simpa using this
      have hrest : ops.toList.drop (i + 1) = r := by
        have := congrArg (List.drop 1) hdr
        simpa [List.drop_drop] using this
      have ih := text_go (ops := ops) hC hG hQ l (i + 1)
      rw [hrest] at ih
      rw [List.length_cons, List.range'_succ, wpOps_cons]
      unfold wpOp
      rw [hget]
      simp only
      rcases gd_or x with ⟨t, b, y, rfl⟩ | hx
      · simp only [doOs] at hk
        obtain ⟨k1, k2, k3⟩ := hk
        obtain ⟨d1, d2⟩ := chkO_in c1
        have hs : sup y = true ∧ dOk N (dsO y) = true := by simpa [okD] using hd.1
        rcases isG_or k1 with kB | kU
        case inr =>
          have hv := h.env t
          rw [kU] at hv
          rw [if_neg (by rw [wanted_off c1 c2 hv.tp0]; simp), d1]
          exact ih _ _ _ w c3 hd.2 (k3 (.inr kU)) ⟨ρ, h.put hs.2 (.refl ρ) VE.undef h.mem⟩
        obtain ⟨b', hb1, hb2⟩ := bool_of h kB
        have hw := wanted_gd c1 c2 hb2
        by_cases hbb : b' = b
        · subst hbb
          rw [if_pos (by rw [hw]; simp)]
          obtain ⟨k4, k5⟩ := k2 hb1
          exact .inl (step_ok hC hG hs.1 hs.2 d1 d2 k4 h fun a' w' hx => ih _ _ a' w' c3 hd.2 k5 hx)
        · rw [if_neg (by rw [hw]; simpa using hbb)]
          have hbn : look e t = .b (!b) := by rw [hb1]; congr 1; cases b <;> cases b' <;> simp_all
          rw [d1]
          exact ih _ _ _ w c3 hd.2 (k3 (.inl hbn)) ⟨ρ, h.put hs.2 (.refl ρ) VE.undef h.mem⟩
      · rw [if_pos (wanted_ng hx c1)]
        rw [doOs_ng hx] at hk
        rw [chkO_ng hx] at c1
        simp only [Bool.and_eq_true, beq_iff_eq] at c1
        rw [okD_ng hx] at hd
        have hs : sup x = true ∧ dOk N (dsO x) = true := by simpa using hd.1
        exact .inl (step_ok hC hG hs.1 hs.2 c1.1.2 c1.2 hk.1 h fun a' w' hx => ih _ _ a' w' c3 hd.2 hk.2 hx)
theorem chkOs_len {ops : Array Oper} : ∀ {l : List O} {m : List Oper}, chkOs P ops l m = true → l.length = m.length
  | [], [], _ => rfl
  | x :: l, o :: m, h => by
    simp only [chkOs, Bool.and_eq_true] at h
    simp [chkOs_len h.2]
  | [], _ :: _, h => by simp [chkOs] at h
  | _ :: _, [], h => by simp [chkOs] at h
/-- A region in its text's order. -/
theorem text_ok {id : Nat} {ops : Array Oper} {Q : Exit → Act → World → Prop} {κ : Env → Mem → Prop} {l : List O} (hC : TabOK P C) (hG : B.G = P.globals.size) (hQ : ∀ e M a w, κ e M → Ex B N e M a w → Q .normal a w)
    (hc : chkOs P ops l ops.toList = true) (hd : okDs N l = true) (hk : doOs C l e M κ) (h : Ex B N e M a w) : (Code.region id ops false).wp P Q a w := by
  have := text_go hC hG hQ l 0 e M a w (by simpa using hc) hd hk h
  rw [chkOs_len hc, Array.length_toList] at this
  refine wp_region ?_
  rw [List.range_eq_range']
  exact this
end
end Go.Vm
/- Regions that draw their order: whatever order is drawn, the operations' values are those of the text's order. -/
namespace Go.Vm
set_option linter.unusedVariables false
set_option linter.unusedSimpArgs false
section
variable {κ β : Type} [DecidableEq κ]
/-- The last write of a key by those that have run. -/
def wrt : List (Option κ × β) → Nat → (Nat → Bool) → κ → β → β
  | [], _, _, _, d => d
  | (ds, v) :: r, i, L, t, d => wrt r (i + 1) L t (if L i = true ∧ ds = some t then v else d)
theorem wrt_congr {t : κ} : ∀ {l : List (Option κ × β)} {i : Nat} {L L' : Nat → Bool} {d : β}, (∀ j v, l[j]? = some (some t, v) → L (i + j) = L' (i + j)) → wrt l i L t d = wrt l i L' t d
  | [], _, _, _, _, _ => rfl
  | (ds, v) :: r, i, L, L', d, h => by
    simp only [wrt]
    have h0 : (if L i = true ∧ ds = some t then v else d) = (if L' i = true ∧ ds = some t then v else d) := by
      by_cases e : ds = some t
      · subst e
        have := h 0 v rfl
        rw [Nat.add_zero] at this
        rw [this]
      · rw [if_neg (fun x => e x.2), if_neg (fun x => e x.2)]
    rw [h0]
    exact wrt_congr fun j v' hj => by
      have := h (j + 1) v' (by simpa using hj)
      rwa [show i + 1 + j = i + (j + 1) by omega]
/-- None of them. -/
theorem wrt_none {t : κ} : ∀ {l : List (Option κ × β)} {i : Nat} {L : Nat → Bool} {d : β}, (∀ j v, l[j]? = some (some t, v) → L (i + j) = false) → wrt l i L t d = d
  | [], _, _, _, _ => rfl
  | (ds, v) :: r, i, L, d, h => by
    simp only [wrt]
    have h0 : (if L i = true ∧ ds = some t then v else d) = d := by
      by_cases e : ds = some t
      · subst e
        have := h 0 v rfl
        rw [Nat.add_zero] at this
        simp [this]
      · rw [if_neg (fun x => e x.2)]
    rw [h0]
    exact wrt_none fun j v' hj => by
      have := h (j + 1) v' (by simpa using hj)
      rwa [show i + 1 + j = i + (j + 1) by omega]
/-- The last one. -/
theorem wrt_last {t : κ} {v : β} : ∀ {l : List (Option κ × β)} {i k : Nat} {L : Nat → Bool} {d : β}, l[k]? = some (some t, v) → L (i + k) = true → (∀ j v, k < j → l[j]? = some (some t, v) → L (i + j) = false) → wrt l i L t d = v
  | [], _, _, _, _, h, _, _ => by simp at h
  | (ds, v') :: r, i, 0, L, d, h, hL, hn => by
    simp only [List.getElem?_cons_zero, Option.some.injEq, Prod.mk.injEq] at h
    simp only [wrt]
    rw [if_pos ⟨by simpa using hL, h.1⟩, h.2]
    exact wrt_none fun j v' hj => by
      have := hn (j + 1) v' (by omega) (by simpa using hj)
      rwa [show i + 1 + j = i + (j + 1) by omega]
  | (ds, v') :: r, i, k + 1, L, d, h, hL, hn => by
    simp only [wrt]
    exact wrt_last (by simpa using h) (by rwa [show i + 1 + k = i + (k + 1) by omega]) fun j v' hk hj => by
      have := hn (j + 1) v' (by omega) (by simpa using hj)
      rwa [show i + 1 + j = i + (j + 1) by omega]
end
def isEf : O → Bool
  | .csb .. | .al .. | .bx .. | .lal .. | .lbx .. | .st .. | .bs .. | .lbs .. | .mk .. | .ap .. | .cp .. | .cl .. | .cv .. | .mkm .. | .mu .. | .dl .. | .rs .. | .nx .. => true
  | _ => false
def inn : O → O
  | .gd _ _ y => y
  | y => y
section
variable {P : Program} {B : Base} {C : Tab} {M M' : Mem} {e : Env}
theorem same_mem {x : O} (h : isEf x = false) : mmO C e M x = M := by
  cases x <;> first | rfl | cases h
theorem same_val {x : O} (h : isEf x = false) (h' : isRd x = false) (hg : isGd x = false) : okO C e M x = okO C e M' x ∧ vlO C e M x = vlO C e M' x := by
  cases x <;> first | exact ⟨rfl, rfl⟩ | exact Bool.noConfusion (show true = false from h) | exact Bool.noConfusion (show true = false from h') | exact Bool.noConfusion (show true = false from hg)
end
/-- One operation of the text's order, as it ran. -/
structure Tr where
  o : O
  on : Bool
  e : Env
  M : Mem
  cf : List Nat
  kp : Bool
def Tr.v (C : Tab) (x : Tr) : AV := if x.on then vlO C x.e x.M (inn x.o) else .tp []
def Tr.m (C : Tab) (x : Tr) : Mem := if x.on then mmO C x.e x.M (inn x.o) else x.M
def Tr.ok (C : Tab) (x : Tr) : Prop := match x.o with
  | .gd t b y => (look x.e t = .b b ∧ x.on = true ∧ okO C x.e x.M y) ∨ (offV b (look x.e t) ∧ x.on = false)
  | y => x.on = true ∧ okO C x.e x.M y
/-- The elder ones that a later one looks back at. -/
def Tr.lg (x : Tr) (i : Nat) (lg : List Lg) : List Lg := if x.on then lgPut x.kp i (inn x.o) x.e x.M lg else lg
def trace (C : Tab) : Nat → List Lg → List PO → Env → Mem → List Tr → Env → Mem → Prop
  | _, _, [], e, M, T, e', M' => T = [] ∧ e' = e ∧ M' = M
  | i, lg, p :: l, e, M, T, e', M' => ∃ x r, T = x :: r ∧ x.o = p.o ∧ x.cf = p.cf ∧ x.kp = p.kp ∧ x.e = e ∧ x.M = M ∧ x.ok C ∧ (x.on = true → cfC C lg (inn x.o) e M x.cf) ∧
      trace C (i + 1) (x.lg i lg) l (putE (dsO x.o) (x.v C) e) (x.m C) r e' M'
section
variable {C : Tab}
theorem inn_ng {x : O} (h : isGd x = false) : inn x = x := by
  cases x <;> first | rfl | cases h
theorem Tr.ok_ng {x : Tr} (h : isGd x.o = false) : x.ok C = (x.on = true ∧ okO C x.e x.M x.o) := by
  unfold Tr.ok
  cases hx : x.o <;> rw [hx] at h <;> first | rfl | cases h
theorem dsO_inn (x : O) : dsO x = dsO (inn x) := by cases x <;> rfl
theorem trace_of {κ : Env → Mem → Prop} : ∀ (l : List PO) (i : Nat) (lg : List Lg) (e : Env) (M : Mem), doPs C i lg l e M κ → ∃ T e' M', trace C i lg l e M T e' M' ∧ κ e' M'
  | [], i, lg, e, M, h => ⟨[], e, M, ⟨rfl, rfl, rfl⟩, h⟩
  | ⟨o, cf, kp⟩ :: l, i, lg, e, M, h => by
    rcases gd_or o with ⟨t, b, y, rfl⟩ | ho
    · simp only [doPs] at h
      obtain ⟨h1, h2, h3⟩ := h
      have hoff : offV b (look e t) → ∃ T e' M', trace C i lg (⟨.gd t b y, cf, kp⟩ :: l) e M T e' M' ∧ κ e' M' := fun ho => by
        obtain ⟨T, e', M', r1, r2⟩ := trace_of l (i + 1) _ _ _ (h3 ho)
        exact ⟨⟨.gd t b y, false, e, M, cf, kp⟩ :: T, e', M', ⟨_, T, rfl, rfl, rfl, rfl, rfl, rfl, .inr ⟨ho, rfl⟩, fun h => Bool.noConfusion h, r1⟩, r2⟩
      rcases isG_or h1 with h1 | h1
      case inr => exact hoff (.inr h1)
      have hb : ∃ b', look e t = .b b' := by
        cases hl : look e t <;> rw [hl] at h1 <;> first | exact ⟨_, rfl⟩ | cases h1
      obtain ⟨b', hb⟩ := hb
      by_cases hbb : b' = b
      · subst hbb
        obtain ⟨k1, k2, k3⟩ := h2 hb
        obtain ⟨T, e', M', r1, r2⟩ := trace_of l (i + 1) _ _ _ k3
        exact ⟨⟨.gd t b' y, true, e, M, cf, kp⟩ :: T, e', M', ⟨_, T, rfl, rfl, rfl, rfl, rfl, rfl, .inl ⟨hb, rfl, k1⟩, fun _ => k2, r1⟩, r2⟩
      · have hbn : look e t = .b (!b) := by rw [hb]; congr 1; cases b <;> cases b' <;> simp_all
        exact hoff (.inl hbn)
    · rw [doPs_ng ho] at h
      obtain ⟨k1, k2, k3⟩ := h
      obtain ⟨T, e', M', r1, r2⟩ := trace_of l (i + 1) _ _ _ k3
      have hi := inn_ng ho
      refine ⟨⟨o, true, e, M, cf, kp⟩ :: T, e', M', ⟨_, T, rfl, rfl, rfl, rfl, rfl, rfl, ?_, fun _ => by simp only; rw [hi]; exact k2, ?_⟩, r2⟩
      · rw [Tr.ok_ng ho]; exact ⟨rfl, k1⟩
      · simp only [Tr.lg, Tr.v, Tr.m, if_true, hi]; exact r1
def ws (C : Tab) (T : List Tr) : List (Option Nat × AV) := T.map fun x => (dsO x.o, x.v C)
def wm (C : Tab) (T : List Tr) : List (Option Unit × Mem) := T.map fun x => (if x.on && isEf (inn x.o) then some () else none, x.m C)
theorem Tr.m_same {x : Tr} (h : (x.on && isEf (inn x.o)) = false) : x.m C = x.M := by
  unfold Tr.m
  cases hon : x.on
  · rfl
  · rw [hon] at h
    exact same_mem (by simpa using h)
/-- What stands ahead of an operation of the text's order, and behind the last one. -/
theorem trace_at : ∀ (l : List PO) (T : List Tr) (i : Nat) (lg : List Lg) (e : Env) (M : Mem) (e' : Env) (M' : Mem), trace C i lg l e M T e' M' →
    T.length = l.length ∧ (∀ t L, (∀ j, i ≤ j → L j = true) → look e' t = wrt (ws C T) i L t (look e t)) ∧ (∀ L, (∀ j, i ≤ j → L j = true) → M' = wrt (wm C T) i L () M) ∧
    ∀ j x, T[j]? = some x → (∃ p, l[j]? = some p ∧ x.o = p.o ∧ x.cf = p.cf ∧ x.kp = p.kp) ∧ x.ok C ∧ (∀ t, look x.e t = wrt (ws C T) i (fun k => decide (k < i + j)) t (look e t)) ∧ x.M = wrt (wm C T) i (fun k => decide (k < i + j)) () M
  | [], T, i, lg, e, M, e', M', h => by
    obtain ⟨rfl, rfl, rfl⟩ := h
    exact ⟨rfl, fun _ _ _ => rfl, fun _ _ => rfl, fun j x hx => by simp at hx⟩
  | p :: l, T, i, lg, e, M, e', M', h => by
    obtain ⟨x, r, rfl, h1, h2, h3, rfl, rfl, h6, h7, h8⟩ := h
    obtain ⟨q1, q2, q3, q4⟩ := trace_at l r (i + 1) _ _ _ e' M' h8
    have step : ∀ t, look (putE (dsO x.o) (x.v C) x.e) t = if dsO x.o = some t then x.v C else look x.e t := fun t => by
      cases hd : dsO x.o with
      | none => simp [putE]
      | some d => simp [putE, look]
    have stepM : x.m C = if (if (x.on && isEf (inn x.o)) = true then some () else none : Option Unit) = some () then x.m C else x.M := by
      by_cases hh : (x.on && isEf (inn x.o)) = true
      · simp [hh]
      · rw [if_neg (by simp [hh])]; exact Tr.m_same (by simpa using hh)
    refine ⟨by simp [q1], fun t L hL => ?_, fun L hL => ?_, fun j y hy => ?_⟩
    · rw [q2 t L fun j hj => hL j (by omega), step]
      simp only [ws, List.map_cons, wrt]
      simp [hL i (Nat.le_refl _)]
    · rw [q3 L fun j hj => hL j (by omega)]
      simp only [wm, List.map_cons, wrt]
      congr 1
      simp only [hL i (Nat.le_refl _), true_and]
      exact stepM
    · cases j with
      | zero =>
        have hxy : x = y := by simpa using hy
        subst hxy
        refine ⟨⟨p, rfl, h1, h2, h3⟩, h6, fun t => (wrt_none fun k v _ => by simp).symm, (wrt_none fun k v _ => by simp).symm⟩
      | succ j =>
        obtain ⟨s1, s2, s3, s4⟩ := q4 j y (by simpa using hy)
        refine ⟨by simpa using s1, s2, fun t => ?_, ?_⟩
        · rw [s3 t, step]
          simp only [ws, List.map_cons, wrt]
          have : decide (i < i + (j + 1)) = true := by simp
          simp only [this, true_and, show i + 1 + j = i + (j + 1) by omega]
        · rw [s4, stepM]
          simp only [wm, List.map_cons, wrt]
          have : decide (i < i + (j + 1)) = true := by simp
          simp only [this, true_and, show i + 1 + j = i + (j + 1) by omega]
end
end Go.Vm
/- Regions that draw their order: the check, and that it is enough. -/
namespace Go.Vm
set_option linter.unusedVariables false
set_option linter.unusedSimpArgs false
def edg (o : Oper) : List Nat := (o.after.toList.filter fun e => Region.binds .any e).map (·.on)
def mask (acc : List Nat) : List Nat → Nat
  | [] => 0
  | k :: r => (2 ^ k ||| acc.getD k 0) ||| mask acc r
def tmpsO : List Opd → List Nat
  | [] => []
  | .t n :: r => n :: tmpsO r
  | _ :: r => tmpsO r
def looks : O → List Nat
  | .gd t _ y => t :: tmpsO (opds y)
  | y => tmpsO (opds y)
def apart (x y : O) : Bool :=
  (match dsO x with
    | some d => !memN (looks y) d && dsO y != some d
    | none => true) &&
  (match dsO y with
    | some d => !memN (looks x) d
    | none => true)
/-- Two operations whose order is open. -/
def pairOK (i : Nat) (x y : PO) : Bool :=
  apart x.o y.o && !(isEf (inn x.o) && isEf (inn y.o)) && (if (isRd (inn x.o) && isEf (inn y.o)) || (isEf (inn x.o) && isRd (inn y.o)) then memN y.cf i && x.kp else true)
def parRow (m : Nat) (y : PO) : Nat → List PO → Bool
  | _, [] => true
  | i, x :: r => (m.testBit i || pairOK i x y) && parRow m y (i + 1) r
def parGo : Nat → List PO → List Nat → List PO → List Oper → Bool
  | j, pre, acc, y :: l, o :: r => (edg o).all (fun k => decide (k < j)) && parRow (mask acc (edg o)) y 0 pre && parGo (j + 1) (pre ++ [y]) (acc ++ [mask acc (edg o)]) l r
  | _, _, _, [], [] => true
  | _, _, _, _, _ => false
inductive Bef (ops : List Oper) : Nat → Nat → Prop
  | edge {i j : Nat} {o : Oper} : ops[j]? = some o → i ∈ edg o → Bef ops i j
  | step {i k j : Nat} {o : Oper} : ops[j]? = some o → k ∈ edg o → Bef ops i k → Bef ops i j
theorem mask_spec {acc : List Nat} {i : Nat} : ∀ {l : List Nat}, (mask acc l).testBit i = true → ∃ k, k ∈ l ∧ (i = k ∨ (acc.getD k 0).testBit i = true)
  | [], h => by simp [mask] at h
  | k :: r, h => by
    simp only [mask, Nat.testBit_or, Bool.or_eq_true] at h
    rcases h with (h | h) | h
    · rw [Nat.testBit_two_pow] at h
      exact ⟨k, by simp, .inl (by simpa using h : k = i).symm⟩
    · exact ⟨k, by simp, .inr h⟩
    · obtain ⟨k', h1, h2⟩ := mask_spec h
      exact ⟨k', by simp [h1], h2⟩
theorem parRow_spec {m : Nat} {y : PO} : ∀ {l : List PO} {i : Nat}, parRow m y i l = true → ∀ j x, l[j]? = some x → m.testBit (i + j) = true ∨ pairOK (i + j) x y = true
  | [], _, _, j, x, hx => by simp at hx
  | z :: r, i, h, 0, x, hx => by
    simp only [parRow, Bool.and_eq_true, Bool.or_eq_true] at h
    have : z = x := by simpa using hx
    subst this
    exact h.1
  | z :: r, i, h, j + 1, x, hx => by
    simp only [parRow, Bool.and_eq_true] at h
    have := parRow_spec h.2 j x (by simpa using hx)
    rwa [show i + 1 + j = i + (j + 1) by omega] at this
theorem par_spec {all : List PO} {ops : List Oper} : ∀ (l : List PO) (r : List Oper) (j : Nat) (pre : List PO) (acc : List Nat), all = pre ++ l → ops.drop j = r → pre.length = j → acc.length = j → (∀ k, k < j → ∀ i, (acc.getD k 0).testBit i = true → Bef ops i k) →
    parGo j pre acc l r = true → ∀ j' y o, j ≤ j' → all[j']? = some y → ops[j']? = some o → (∀ k, k ∈ edg o → k < j') ∧ ∀ i x, i < j' → all[i]? = some x → Bef ops i j' ∨ pairOK i x y = true
  | [], r, j, pre, acc, ha, _, hp, _, _, _, j', y, o, hj, hy, _ => by
    rw [ha, List.append_nil] at hy
    have := (List.getElem?_eq_some_iff.1 hy).1
    omega
  | y0 :: l, [], j, pre, acc, _, _, _, _, _, hg, _, _, _, _, _, _ => by simp [parGo] at hg
  | y0 :: l, o0 :: r, j, pre, acc, ha, hr, hp, hl, hacc, hg, j', y, o, hj, hy, ho => by
    simp only [parGo, Bool.and_eq_true] at hg
    obtain ⟨⟨g1, g2⟩, g3⟩ := hg
    have ho0 : ops[j]? = some o0 := by
      have := congrArg (·[0]?) hr
      simpa using this
    have hk : ∀ k, k ∈ edg o0 → k < j := fun k hk => by simpa using List.all_eq_true.1 g1 k hk
    have hm : ∀ i, (mask acc (edg o0)).testBit i = true → Bef ops i j := fun i hi => by
      obtain ⟨k, k1, k2⟩ := mask_spec hi
      rcases k2 with rfl | k2
      · exact .edge ho0 k1
      · exact .step ho0 k1 (hacc k (hk k k1) i k2)
    by_cases e : j' = j
    · subst e
      have e1 : y0 = y := by
        rw [ha, List.getElem?_append_right (by omega), hp, Nat.sub_self] at hy
        simpa using hy
      have e2 : o0 = o := by rw [ho0] at ho; exact Option.some.inj ho
      subst e1 e2
      refine ⟨hk, fun i x hi hx => ?_⟩
      rw [ha, List.getElem?_append_left (by omega)] at hx
      have := parRow_spec g2 i x hx
      rw [Nat.zero_add] at this
      exact this.imp_left (hm i)
    · refine par_spec l r (j + 1) (pre ++ [y0]) (acc ++ [mask acc (edg o0)]) (by rw [ha]; simp) ?_ (by simp [hp]) (by simp [hl]) ?_ g3 j' y o (by omega) hy ho
      · have := congrArg (List.drop 1) hr
        simpa [List.drop_drop] using this
      · intro k hk' i hi
        by_cases ek : k = j
        · subst ek
          have : (acc ++ [mask acc (edg o0)]).getD k 0 = mask acc (edg o0) := by simp [← hl]
          rw [this] at hi
          exact hm i hi
        · have : (acc ++ [mask acc (edg o0)]).getD k 0 = acc.getD k 0 := by
            simp only [List.getD]
            rw [List.getElem?_append_left (by omega)]
          rw [this] at hi
          exact hacc k (by omega) i hi
section
variable {C : Tab}
/-- What was checked at an operation of the text's order. -/
theorem trace_cf : ∀ (l : List PO) (T : List Tr) (i : Nat) (lg : List Lg) (e : Env) (M : Mem) (e' : Env) (M' : Mem), trace C i lg l e M T e' M' →
    ∀ j x, T[j]? = some x → x.on = true → ∃ lg', cfC C lg' (inn x.o) x.e x.M x.cf ∧ (∀ k y, k < j → T[k]? = some y → y.on = true → y.kp = true → lgAt lg' (i + k) = some ⟨i + k, inn y.o, y.e, y.M⟩) ∧ (∀ m, m < i → lgAt lg' m = lgAt lg m)
  | [], T, i, lg, e, M, e', M', h, j, x, hx, _ => by
    obtain ⟨rfl, -, -⟩ := h
    simp at hx
  | p :: l, T, i, lg, e, M, e', M', h, j, x, hx, hon => by
    obtain ⟨y, r, rfl, h1, h2, h3, rfl, rfl, h6, h7, h8⟩ := h
    cases j with
    | zero =>
      have : y = x := by simpa using hx
      subst this
      exact ⟨lg, h7 hon, fun k z hk => by omega, fun _ _ => rfl⟩
    | succ j =>
      obtain ⟨lg', q1, q2, q3⟩ := trace_cf l r (i + 1) _ _ _ e' M' h8 j x (by simpa using hx) hon
      refine ⟨lg', q1, fun k z hk hz hzo hzk => ?_, fun m hm => ?_⟩
      · cases k with
        | zero =>
          have : y = z := by simpa using hz
          subst this
          rw [Nat.add_zero, q3 i (by omega)]
          simp [Tr.lg, lgPut, hzo, hzk, lgAt]
        | succ k =>
          have := q2 k z (by omega) (by simpa using hz) hzo hzk
          rwa [show i + 1 + k = i + (k + 1) by omega] at this
      · rw [q3 m (by omega)]
        unfold Tr.lg lgPut
        split
        · split
          · simp only [lgAt]
            rw [if_neg (by omega)]
          · rfl
        · rfl
theorem cf_mem {lg : List Lg} {o : O} {e : Env} {M : Mem} {k : Nat} {x : Lg} (hx : lgAt lg k = some x) : ∀ {cf : List Nat}, cfC C lg o e M cf → memN cf k = true →
    (isRd o = true → okO C e x.M o ∧ vlO C e x.M o = vlO C e M o) ∧ (isRd o = false → okO C x.e (mmO C e M o) x.o ∧ vlO C x.e (mmO C e M o) x.o = vlO C x.e x.M x.o)
  | [], _, hm => by cases hm
  | i :: r, h, hm => by
    simp only [cfC] at h
    simp only [memN] at hm
    by_cases e1 : i = k
    · subst e1
      have h1 := h.1
      rw [hx] at h1
      simp only at h1
      refine ⟨fun hr => ?_, fun hr => ?_⟩
      · rw [if_pos hr] at h1; exact h1
      · rw [if_neg (by simp [hr])] at h1; exact h1
    · rw [if_neg e1] at hm
      exact cf_mem hx h.2 hm
end
theorem memN_iff {l : List Nat} {n : Nat} : memN l n = true ↔ n ∈ l := by
  induction l with
  | nil => simp [memN]
  | cons m r ih =>
    simp only [memN]
    by_cases e : m = n
    · simp [e]
    · rw [if_neg e, ih]
      simp only [List.mem_cons]
      constructor
      · exact .inr
      · rintro (h | h)
        · exact absurd h.symm e
        · exact h
theorem mem_tmpsO {t : Nat} : ∀ {l : List Opd}, Opd.t t ∈ l → t ∈ tmpsO l
  | [], h => by cases h
  | x :: r, h => by
    rcases List.mem_cons.1 h with rfl | h
    · simp [tmpsO]
    · have := mem_tmpsO h
      cases x <;> simp [tmpsO, this]
theorem ef_not_rd {x : O} (h : isEf x = true) : isRd x = false := by
  cases x <;> first | rfl | exact Bool.noConfusion (show false = true from h)
theorem pair_apart {i : Nat} {x y : PO} (h : pairOK i x y = true) : (∀ d, dsO x.o = some d → ¬ d ∈ looks y.o ∧ dsO y.o ≠ some d) ∧ (∀ d, dsO y.o = some d → ¬ d ∈ looks x.o) := by
  simp only [pairOK, Bool.and_eq_true, apart] at h
  obtain ⟨⟨⟨h1, h2⟩, -⟩, -⟩ := h
  refine ⟨fun d hd => ?_, fun d hd => ?_⟩
  · rw [hd] at h1
    simp only [Bool.and_eq_true, Bool.not_eq_true', bne_iff_ne] at h1
    exact ⟨fun hm => (by rw [memN_iff.2 hm] at h1; cases h1.1), h1.2⟩
  · rw [hd] at h2
    simp only [Bool.not_eq_true'] at h2
    exact fun hm => by rw [memN_iff.2 hm] at h2; cases h2
theorem pair_ef {i : Nat} {x y : PO} (h : pairOK i x y = true) : ¬ (isEf (inn x.o) = true ∧ isEf (inn y.o) = true) := by
  simp only [pairOK, Bool.and_eq_true, Bool.not_eq_true'] at h
  rintro ⟨h1, h2⟩
  rw [h1, h2] at h
  cases h.1.2
theorem pair_cf {i : Nat} {x y : PO} (h : pairOK i x y = true) (hr : (isRd (inn x.o) = true ∧ isEf (inn y.o) = true) ∨ (isEf (inn x.o) = true ∧ isRd (inn y.o) = true)) : memN y.cf i = true ∧ x.kp = true := by
  simp only [pairOK, Bool.and_eq_true] at h
  have h3 := h.2
  rw [if_pos (by rcases hr with ⟨h1, h2⟩ | ⟨h1, h2⟩ <;> simp [h1, h2])] at h3
  simpa using h3
end Go.Vm
/- Regions that draw their order: soundness. -/
namespace Go.Vm
set_option linter.unusedVariables false
set_option linter.unusedSimpArgs false
section
variable {P : Program}
theorem chkOs_get {ops : Array Oper} : ∀ {l : List O} {m : List Oper}, chkOs P ops l m = true → ∀ (j : Nat) (x : O), l[j]? = some x → ∃ o, m[j]? = some o ∧ chkO P x o = true ∧ chkG ops x o = true
  | [], _, _, j, x, hx => by simp at hx
  | y :: l, o :: m, h, 0, x, hx => by
    simp only [chkOs, Bool.and_eq_true] at h
    have : y = x := by simpa using hx
    subst this
    exact ⟨o, rfl, h.1.1, h.1.2⟩
  | y :: l, o :: m, h, j + 1, x, hx => by
    simp only [chkOs, Bool.and_eq_true] at h
    obtain ⟨o', h1, h2⟩ := chkOs_get h.2 j x (by simpa using hx)
    exact ⟨o', by simpa using h1, h2⟩
  | _ :: _, [], h, _, _, _ => by simp [chkOs] at h
theorem okDs_get {N : Nat} : ∀ {l : List O}, okDs N l = true → ∀ (j : Nat) (x : O), l[j]? = some x → okD N x = true
  | [], _, j, x, hx => by simp at hx
  | y :: l, h, 0, x, hx => by
    simp only [okDs, Bool.and_eq_true] at h
    have : y = x := by simpa using hx
    exact this ▸ h.1
  | y :: l, h, j + 1, x, hx => by
    simp only [okDs, Bool.and_eq_true] at h
    exact okDs_get h.2 j x (by simpa using hx)
end
def Lf (listed : Array Bool) (k : Nat) : Bool := listed.getD k false
theorem Lf_set {listed : Array Bool} {j k : Nat} (h : j < listed.size) : Lf (listed.setIfInBounds j true) k = if j = k then true else Lf listed k := by
  simp only [Lf, Array.getD_eq_getD_getElem?, Array.getElem?_setIfInBounds]
  by_cases e : j = k
  · subst e; simp [h]
  · simp [e]
/-- A region, checked, with its run in the text's order. -/
structure Dr (P : Program) (C : Tab) (N : Nat) (ops : Array Oper) (l : List PO) (T : List Tr) (e0 : Env) (M0 : Mem) (e' : Env) (M' : Mem) : Prop where
  tr : trace C 0 [] l e0 M0 T e' M'
  chk : chkOs P ops (l.map (·.o)) ops.toList = true
  okd : okDs N (l.map (·.o)) = true
  par : parGo 0 [] [] l ops.toList = true
structure Inv (B : Base) (C : Tab) (N : Nat) (ops : Array Oper) (T : List Tr) (e0 : Env) (M0 : Mem) (listed : Array Bool) (a : Act) (w : World) : Prop where
  sz : listed.size = ops.size
  cl : ∀ j o, ops.toList[j]? = some o → Lf listed j = true → ∀ k, k ∈ edg o → Lf listed k = true
  st : ∃ ρ, (∀ t, VE ρ (wrt (ws C T) 0 (Lf listed) t (look e0 t)) (a.tmps.getD t undef)) ∧ MemR B ρ (wrt (wm C T) 0 (Lf listed) () M0) w ∧ a.defers = [] ∧ N ≤ a.tmps.size
section
variable {P : Program} {B : Base} {C : Tab} {N : Nat} {ops : Array Oper} {l : List PO} {T : List Tr} {e0 e' : Env} {M0 M' : Mem} {listed : Array Bool} {a : Act} {w : World}
theorem ws_get {j d : Nat} {v : AV} (h : (ws C T)[j]? = some (some d, v)) : ∃ x, T[j]? = some x ∧ dsO x.o = some d ∧ x.v C = v := by
  simp only [ws, List.getElem?_map] at h
  cases hx : T[j]? with
  | none => rw [hx] at h; cases h
  | some x =>
    rw [hx] at h
    simp only [Option.map_some, Option.some.injEq, Prod.mk.injEq] at h
    exact ⟨x, rfl, h.1, h.2⟩
theorem wm_get {j : Nat} {v : Mem} (h : (wm C T)[j]? = some (some (), v)) : ∃ x, T[j]? = some x ∧ (x.on && isEf (inn x.o)) = true ∧ x.m C = v := by
  simp only [wm, List.getElem?_map] at h
  cases hx : T[j]? with
  | none => rw [hx] at h; cases h
  | some x =>
    rw [hx] at h
    simp only [Option.map_some, Option.some.injEq, Prod.mk.injEq] at h
    refine ⟨x, rfl, ?_, h.2⟩
    by_cases he : (x.on && isEf (inn x.o)) = true
    · exact he
    · rw [if_neg he] at h; cases h.1
/-- An operation's facts. -/
theorem Dr.at (D : Dr P C N ops l T e0 M0 e' M') {j : Nat} {x : Tr} (hx : T[j]? = some x) :
    ∃ p o, l[j]? = some p ∧ ops.toList[j]? = some o ∧ x.o = p.o ∧ x.cf = p.cf ∧ x.kp = p.kp ∧ chkO P x.o o = true ∧ chkG ops x.o o = true ∧ okD N x.o = true ∧ x.ok C ∧
      (∀ t, look x.e t = wrt (ws C T) 0 (fun k => decide (k < j)) t (look e0 t)) ∧ x.M = wrt (wm C T) 0 (fun k => decide (k < j)) () M0 ∧ (∀ k, k ∈ edg o → k < j) := by
  obtain ⟨-, -, -, q4⟩ := trace_at l T 0 [] e0 M0 e' M' D.tr
  obtain ⟨⟨p, h1, h2, h3, h4⟩, h5, h6, h7⟩ := q4 j x hx
  have hm : (l.map (·.o))[j]? = some x.o := by simp [h1, h2]
  obtain ⟨o, k1, k2, k3⟩ := chkOs_get D.chk j x.o hm
  refine ⟨p, o, h1, k1, h2, h3, h4, k2, k3, okDs_get D.okd j x.o hm, h5, ?_, ?_, ?_⟩
  · simpa using h6
  · simpa using h7
  · exact (par_spec l ops.toList 0 [] [] rfl rfl rfl rfl (fun k hk => by omega) D.par j p o (by omega) h1 k1).1
theorem Dr.pair (D : Dr P C N ops l T e0 M0 e' M') {i j : Nat} {x y : Tr} (hx : T[i]? = some x) (hy : T[j]? = some y) (hij : i < j) : Bef ops.toList i j ∨ ∃ p q, l[i]? = some p ∧ l[j]? = some q ∧ x.o = p.o ∧ x.kp = p.kp ∧ y.o = q.o ∧ y.cf = q.cf ∧ pairOK i p q = true := by
  obtain ⟨p, o, h1, h2, h3, h4, h5, -⟩ := D.at hx
  obtain ⟨q, o', k1, k2, k3, k4, k5, -⟩ := D.at hy
  refine ((par_spec l ops.toList 0 [] [] rfl rfl rfl rfl (fun k hk => by omega) D.par j q o' (by omega) k1 k2).2 i p hij h1).imp_right fun h => ⟨p, q, h1, k1, h3, h5, k3, k4, h⟩
theorem bef_lf (cl : ∀ j o, ops.toList[j]? = some o → Lf listed j = true → ∀ k, k ∈ edg o → Lf listed k = true) {i j : Nat} (h : Bef ops.toList i j) : (∀ o, ops.toList[j]? = some o → ∀ k, k ∈ edg o → Lf listed k = true) → Lf listed i = true := by
  induction h with
  | edge h1 h2 => exact fun h => h _ h1 _ h2
  | step h1 h2 _ ih => exact fun h => ih fun o ho => cl _ o ho (h _ h1 _ h2)
theorem ready_facts (sz : listed.size = ops.size) {j : Nat} (h : j ∈ Region.ready .any ops listed) : ∃ o, ops[j]? = some o ∧ j < listed.size ∧ Lf listed j = false ∧ ∀ k, k ∈ edg o → Lf listed k = true := by
  obtain ⟨h1, o, h2, h3⟩ := mem_ready.1 h
  have hlt : j < ops.size := (Array.getElem?_eq_some_iff.1 h2).1
  refine ⟨o, h2, by omega, ?_, fun k hk => ?_⟩
  · simp only [Lf, Array.getD_eq_getD_getElem?] at h1 ⊢
    rw [Array.getElem?_eq_getElem (by omega)] at h1 ⊢
    exact h1
  · obtain ⟨e, he, rfl⟩ := List.mem_map.1 hk
    obtain ⟨he1, he2⟩ := List.mem_filter.1 he
    exact h3 e (by simpa using he1) he2
/-- The order to the next one is open, or it is that of the text. -/
theorem Dr.free (D : Dr P C N ops l T e0 M0 e' M') (cl : ∀ j o, ops.toList[j]? = some o → Lf listed j = true → ∀ k, k ∈ edg o → Lf listed k = true) {j : Nat} {x : Tr} (hx : T[j]? = some x) (hl : Lf listed j = false)
    (hr : ∀ o, ops.toList[j]? = some o → ∀ k, k ∈ edg o → Lf listed k = true) {k : Nat} {y : Tr} (hy : T[k]? = some y) (hk : Lf listed k ≠ decide (k < j)) :
    (k < j ∧ Lf listed k = false ∧ ∃ p q, l[k]? = some p ∧ l[j]? = some q ∧ y.o = p.o ∧ y.kp = p.kp ∧ x.o = q.o ∧ x.cf = q.cf ∧ pairOK k p q = true) ∨
    (j < k ∧ Lf listed k = true ∧ ∃ p q, l[j]? = some p ∧ l[k]? = some q ∧ x.o = p.o ∧ x.kp = p.kp ∧ y.o = q.o ∧ y.cf = q.cf ∧ pairOK j p q = true) := by
  by_cases h1 : k < j
  · have h2 : Lf listed k = false := by cases hh : Lf listed k <;> simp_all
    refine .inl ⟨h1, h2, (D.pair hy hx h1).resolve_left fun hb => ?_⟩
    rw [bef_lf cl hb hr] at h2; cases h2
  · by_cases h2 : k = j
    · subst h2; rw [hl] at hk; simp at hk
    · have h3 : Lf listed k = true := by cases hh : Lf listed k <;> simp_all
      refine .inr ⟨by omega, h3, (D.pair hx hy (by omega)).resolve_left fun hb => ?_⟩
      rw [bef_lf cl hb fun o ho => cl k o ho h3] at hl; cases hl
/-- What an operation looks at is what the text's order says. -/
theorem Dr.env (D : Dr P C N ops l T e0 M0 e' M') (cl : ∀ j o, ops.toList[j]? = some o → Lf listed j = true → ∀ k, k ∈ edg o → Lf listed k = true) {j : Nat} {x : Tr} (hx : T[j]? = some x) (hl : Lf listed j = false)
    (hr : ∀ o, ops.toList[j]? = some o → ∀ k, k ∈ edg o → Lf listed k = true) {t : Nat} (ht : t ∈ looks x.o) : wrt (ws C T) 0 (Lf listed) t (look e0 t) = look x.e t := by
  obtain ⟨p, o, -, -, -, -, -, -, -, -, -, h1, -⟩ := D.at hx
  rw [h1 t]
  refine wrt_congr fun k v hk => ?_
  rw [Nat.zero_add]
  obtain ⟨y, hy, hd, -⟩ := ws_get hk
  by_cases e : Lf listed k = decide (k < j)
  · exact e
  · rcases D.free cl hx hl hr hy e with ⟨-, -, p, q, -, -, e1, -, e2, -, hp⟩ | ⟨-, -, p, q, -, -, e1, -, e2, -, hp⟩
    · rw [e1] at hd; rw [e2] at ht
      exact absurd ht ((pair_apart hp).1 t hd).1
    · rw [e2] at hd; rw [e1] at ht
      exact absurd ht ((pair_apart hp).2 t hd)
/-- An operation that changes memory finds the memory of the text's order. -/
theorem Dr.memE (D : Dr P C N ops l T e0 M0 e' M') (cl : ∀ j o, ops.toList[j]? = some o → Lf listed j = true → ∀ k, k ∈ edg o → Lf listed k = true) {j : Nat} {x : Tr} (hx : T[j]? = some x) (hl : Lf listed j = false)
    (hr : ∀ o, ops.toList[j]? = some o → ∀ k, k ∈ edg o → Lf listed k = true) (he : isEf (inn x.o) = true) : wrt (wm C T) 0 (Lf listed) () M0 = x.M := by
  obtain ⟨p, o, -, -, -, -, -, -, -, -, -, -, h1, -⟩ := D.at hx
  rw [h1]
  refine wrt_congr fun k v hk => ?_
  rw [Nat.zero_add]
  obtain ⟨y, hy, hd, -⟩ := wm_get hk
  have hye : isEf (inn y.o) = true := by simp only [Bool.and_eq_true] at hd; exact hd.2
  by_cases e : Lf listed k = decide (k < j)
  · exact e
  · rcases D.free cl hx hl hr hy e with ⟨-, -, p, q, -, -, e1, -, e2, -, hp⟩ | ⟨-, -, p, q, -, -, e1, -, e2, -, hp⟩
    · rw [e1] at hye; rw [e2] at he
      exact absurd ⟨hye, he⟩ (pair_ef hp)
    · rw [e2] at hye; rw [e1] at he
      exact absurd ⟨he, hye⟩ (pair_ef hp)
/-- Those that change memory run in the text's order. -/
theorem Dr.efs (D : Dr P C N ops l T e0 M0 e' M') (cl : ∀ j o, ops.toList[j]? = some o → Lf listed j = true → ∀ k, k ∈ edg o → Lf listed k = true) {i k : Nat} {x y : Tr} (hx : T[i]? = some x) (hy : T[k]? = some y) (hik : i < k)
    (hex : isEf (inn x.o) = true) (hey : isEf (inn y.o) = true) (hk : Lf listed k = true) : Lf listed i = true := by
  rcases D.pair hx hy hik with hb | ⟨p, q, -, -, e1, -, e2, -, hp⟩
  · exact bef_lf cl hb fun o ho => cl k o ho hk
  · rw [e1] at hex; rw [e2] at hey
    exact absurd ⟨hex, hey⟩ (pair_ef hp)
theorem last_of (p : Nat → Bool) : ∀ n, (∃ k, k < n ∧ p k = true) → ∃ k, k < n ∧ p k = true ∧ ∀ m, k < m → m < n → p m = false
  | 0, ⟨k, hk, _⟩ => by omega
  | n + 1, ⟨k, hk, hp⟩ => by
    by_cases hn : p n = true
    · exact ⟨n, by omega, hn, fun m _ _ => by omega⟩
    · obtain ⟨k', h1, h2, h3⟩ := last_of p n ⟨k, by
        rcases Nat.lt_or_ge k n with h | h
        · exact h
        · exact absurd (show p n = true by rw [show n = k by omega]; exact hp) hn, hp⟩
      refine ⟨k', by omega, h2, fun m hm hm' => ?_⟩
      by_cases e : m = n
      · subst e; simpa using hn
      · exact h3 m hm (by omega)
theorem first_of (p : Nat → Bool) (n : Nat) (h : ∃ k, k < n ∧ p k = true) : ∃ k, k < n ∧ p k = true ∧ ∀ m, m < k → p m = false := by
  obtain ⟨k, hk, hp, hl⟩ := last_of (fun i => p (n - 1 - i)) n (by
    obtain ⟨k, hk, hp⟩ := h
    exact ⟨n - 1 - k, by omega, by rw [show n - 1 - (n - 1 - k) = k by omega]; exact hp⟩)
  refine ⟨n - 1 - k, by omega, hp, fun m hm => ?_⟩
  have := hl (n - 1 - m) (by omega) (by omega)
  rwa [show n - 1 - (n - 1 - m) = m by omega] at this
/-- An operation that reads memory reads what it reads in the text's order. -/
theorem Dr.memR (D : Dr P C N ops l T e0 M0 e' M') (cl : ∀ j o, ops.toList[j]? = some o → Lf listed j = true → ∀ k, k ∈ edg o → Lf listed k = true) {j : Nat} {x : Tr} (hx : T[j]? = some x) (hl : Lf listed j = false)
    (hr : ∀ o, ops.toList[j]? = some o → ∀ k, k ∈ edg o → Lf listed k = true) (hon : x.on = true) (hk : okO C x.e x.M (inn x.o)) (hrd : isRd (inn x.o) = true) :
    okO C x.e (wrt (wm C T) 0 (Lf listed) () M0) (inn x.o) ∧ vlO C x.e (wrt (wm C T) 0 (Lf listed) () M0) (inn x.o) = vlO C x.e x.M (inn x.o) := by
  obtain ⟨p, o, -, -, -, -, -, -, -, -, -, -, hM, -⟩ := D.at hx
  let ef : Nat → Bool := fun k => match T[k]? with
    | some y => y.on && isEf (inn y.o)
    | none => false
  have efT : ∀ k, ef k = true → ∃ y, T[k]? = some y ∧ y.on = true ∧ isEf (inn y.o) = true := fun k h => by
    simp only [ef] at h
    split at h
    · rename_i y hy; exact ⟨y, hy, by simpa using h⟩
    · cases h
  have efw : ∀ {k : Nat} {v : Mem}, (wm C T)[k]? = some (some (), v) → ef k = true := fun {k v} h => by
    obtain ⟨y, hy, hd, -⟩ := wm_get h
    simp only [ef, hy]; exact hd
  by_cases ha : ∃ k, k < j ∧ (ef k && !Lf listed k) = true
  · -- the first that has not run
    obtain ⟨k, hkj, hke, hkf⟩ := first_of (fun k => ef k && !Lf listed k) j ha
    simp only [Bool.and_eq_true, Bool.not_eq_true'] at hke
    obtain ⟨y, hy, hyo, hye⟩ := efT k hke.1
    obtain ⟨-, -, -, -, -, -, -, -, -, -, -, -, hyM, -⟩ := D.at hy
    have hmem : wrt (wm C T) 0 (Lf listed) () M0 = y.M := by
      rw [hyM]
      refine wrt_congr fun m v hm => ?_
      rw [Nat.zero_add]
      have hem := efw hm
      obtain ⟨z, hz, hzo, hze⟩ := efT m hem
      rcases Nat.lt_trichotomy m k with h | h | h
      · have := hkf m h
        rw [hem] at this
        simp only [Bool.true_and, Bool.not_eq_false'] at this
        simp [this, h]
      · subst h; simp [hke.2]
      · have : Lf listed m = false := by
          cases hh : Lf listed m
          · rfl
          · rw [D.efs cl hy hz h hye hze hh] at hke; cases hke.2
        rw [this]; simp; omega
    rcases D.free cl hx hl hr hy (by rw [hke.2]; simp; exact hkj) with ⟨-, -, p, q, -, -, e1, e1', e2, e2', hp⟩ | ⟨h, -⟩
    · obtain ⟨c1, c2⟩ := pair_cf hp (.inr ⟨by rw [← e1]; exact hye, by rw [← e2]; exact hrd⟩)
      obtain ⟨lg', g1, g2, -⟩ := trace_cf l T 0 [] e0 M0 e' M' D.tr j x hx hon
      have := g2 k y hkj hy hyo (e1'.trans c2)
      rw [Nat.zero_add] at this
      rw [hmem]
      exact (cf_mem this g1 (by rw [e2']; exact c1)).1 hrd
    · omega
  · by_cases hb : ∃ k, k < T.length ∧ (ef k && Lf listed k && decide (j < k)) = true
    · -- the last one behind it that has run
      obtain ⟨k, hkn, hke, hkl⟩ := last_of (fun k => ef k && Lf listed k && decide (j < k)) T.length hb
      simp only [Bool.and_eq_true, decide_eq_true_eq] at hke
      obtain ⟨⟨hk1, hk2⟩, hk3⟩ := hke
      obtain ⟨y, hy, hyo, hye⟩ := efT k hk1
      have hmem : wrt (wm C T) 0 (Lf listed) () M0 = mmO C y.e y.M (inn y.o) := by
        have hg : (wm C T)[k]? = some (some (), y.m C) := by simp [wm, hy, hyo, hye]
        have hv : y.m C = mmO C y.e y.M (inn y.o) := by simp [Tr.m, hyo]
        rw [← hv]
        refine wrt_last hg (by rw [Nat.zero_add]; exact hk2) fun m v hm hg' => ?_
        rw [Nat.zero_add]
        have hlt : m < T.length := by
          obtain ⟨z, hz, -⟩ := wm_get hg'
          exact (List.getElem?_eq_some_iff.1 hz).1
        have := hkl m hm hlt
        rw [efw hg'] at this
        simp only [Bool.true_and, Bool.and_eq_false_iff, decide_eq_false_iff_not] at this
        rcases this with h | h
        · exact h
        · omega
      rcases D.free cl hx hl hr hy (by rw [hk2]; simp; omega) with ⟨h, -⟩ | ⟨-, -, p, q, -, -, e1, e1', e2, e2', hp⟩
      · omega
      · obtain ⟨c1, c2⟩ := pair_cf hp (.inl ⟨by rw [← e1]; exact hrd, by rw [← e2]; exact hye⟩)
        obtain ⟨lg', g1, g2, -⟩ := trace_cf l T 0 [] e0 M0 e' M' D.tr k y hy hyo
        have := g2 j x hk3 hx hon (e1'.trans c2)
        rw [Nat.zero_add] at this
        rw [hmem]
        exact (cf_mem this g1 (by rw [e2']; exact c1)).2 (ef_not_rd hye)
    · have hmem : wrt (wm C T) 0 (Lf listed) () M0 = x.M := by
        rw [hM]
        refine wrt_congr fun m v hm => ?_
        rw [Nat.zero_add]
        have hem := efw hm
        obtain ⟨z, hz, hzo, hze⟩ := efT m hem
        have hlt := (List.getElem?_eq_some_iff.1 hz).1
        by_cases h1 : m < j
        · have : Lf listed m = true := by
            cases hh : Lf listed m
            · exact absurd ⟨m, h1, by rw [hem, hh]; rfl⟩ ha
            · rfl
          simp [this, h1]
        · by_cases h2 : m = j
          · subst h2
            simp [hl]
          · have : Lf listed m = false := by
              cases hh : Lf listed m
              · rfl
              · exact absurd ⟨m, hlt, by rw [hem, hh]; simp; omega⟩ hb
            rw [this]; simp; omega
      rw [hmem]
      exact ⟨hk, rfl⟩
/-- One operation of the order that is drawn. -/
theorem Dr.step (D : Dr P C N ops l T e0 M0 e' M') (hC : TabOK P C) (hG : B.G = P.globals.size) {Q : Exit → Act → World → Prop} {K : Act → World → Prop} {j : Nat} (I : Inv B C N ops T e0 M0 listed a w) (hj : j ∈ Region.ready .any ops listed)
    (hK : ∀ a' w', Inv B C N ops T e0 M0 (listed.setIfInBounds j true) a' w' → K a' w') : wpOp P ops Q j K a w := by
  obtain ⟨o, ho, hjs, hl, hre⟩ := ready_facts I.sz hj
  have hol : ops.toList[j]? = some o := by simpa using ho
  obtain ⟨q1, -⟩ := trace_at l T 0 [] e0 M0 e' M' D.tr
  have hTl : T.length = ops.size := by
    rw [q1, ← Array.length_toList, ← chkOs_len D.chk, List.length_map]
  have hss := I.sz
  obtain ⟨x, hx⟩ : ∃ x, T[j]? = some x := ⟨T[j]'(by omega), List.getElem?_eq_getElem (by omega)⟩
  obtain ⟨p, o', -, h2, h3, h4, h5, c1, c2, hd, hok, henv, hM, hedg⟩ := D.at hx
  rw [hol] at h2
  cases h2
  have hr : ∀ o, ops.toList[j]? = some o → ∀ k, k ∈ edg o → Lf listed k = true := fun o ho' => by rw [hol] at ho'; cases ho'; exact hre
  obtain ⟨ρ, i1, i2, i3, i4⟩ := I.st
  have hlook : ∀ t, t ∈ looks x.o → VE ρ (look x.e t) (a.tmps.getD t undef) := fun t ht => by rw [← D.env I.cl hx hl hr ht]; exact i1 t
  -- what stands behind it
  have hcl : ∀ k o, ops.toList[k]? = some o → Lf (listed.setIfInBounds j true) k = true → ∀ m, m ∈ edg o → Lf (listed.setIfInBounds j true) m = true := fun k o ho' hk m hm => by
    rw [Lf_set hjs] at hk ⊢
    by_cases e : j = k
    · subst e
      by_cases e2 : j = m
      · rw [if_pos e2]
      · rw [if_neg e2]; exact hr o ho' m hm
    · rw [if_neg e] at hk
      by_cases e2 : j = m
      · rw [if_pos e2]
      · rw [if_neg e2]; exact I.cl k o ho' hk m hm
  have hother : ∀ k y, T[k]? = some y → j < k → Lf listed k = true → (∀ d, dsO x.o = some d → dsO y.o ≠ some d) ∧ ¬ (isEf (inn x.o) = true ∧ isEf (inn y.o) = true) := fun k y hy hk hkl => by
    rcases D.free I.cl hx hl hr hy (by rw [hkl]; simp; omega) with ⟨h, -⟩ | ⟨-, -, p, q, -, -, e1, -, e2, -, hp⟩
    · omega
    · refine ⟨fun d hdx => ?_, ?_⟩
      · rw [e1] at hdx; rw [e2]; exact ((pair_apart hp).1 d hdx).2
      · rw [e1, e2]; exact pair_ef hp
  have hnew : ∀ t, wrt (ws C T) 0 (Lf (listed.setIfInBounds j true)) t (look e0 t) = if dsO x.o = some t then x.v C else wrt (ws C T) 0 (Lf listed) t (look e0 t) := fun t => by
    by_cases e : dsO x.o = some t
    · rw [if_pos e]
      refine wrt_last (k := j) (by simp [ws, hx, e]) (by rw [Nat.zero_add, Lf_set hjs, if_pos rfl]) fun k v hk hg => ?_
      obtain ⟨y, hy, hdy, -⟩ := ws_get hg
      rw [Nat.zero_add, Lf_set hjs, if_neg (by omega)]
      cases hh : Lf listed k
      · rfl
      · exact absurd hdy ((hother k y hy hk hh).1 t e)
    · rw [if_neg e]
      refine wrt_congr fun k v hg => ?_
      obtain ⟨y, hy, hdy, -⟩ := ws_get hg
      rw [Nat.zero_add, Lf_set hjs, if_neg]
      rintro rfl
      rw [hx] at hy; cases hy; exact e hdy
  have hmnew : wrt (wm C T) 0 (Lf (listed.setIfInBounds j true)) () M0 = if (x.on && isEf (inn x.o)) = true then x.m C else wrt (wm C T) 0 (Lf listed) () M0 := by
    by_cases e : (x.on && isEf (inn x.o)) = true
    · rw [if_pos e]
      refine wrt_last (k := j) (by simp only [wm, List.getElem?_map, hx, Option.map_some]; rw [if_pos e]) (by rw [Nat.zero_add, Lf_set hjs, if_pos rfl]) fun k v hk hg => ?_
      obtain ⟨y, hy, hdy, -⟩ := wm_get hg
      rw [Nat.zero_add, Lf_set hjs, if_neg (by omega)]
      cases hh : Lf listed k
      · rfl
      · simp only [Bool.and_eq_true] at e hdy
        exact absurd ⟨e.2, hdy.2⟩ (hother k y hy hk hh).2
    · rw [if_neg e]
      refine wrt_congr fun k v hg => ?_
      obtain ⟨y, hy, hdy, -⟩ := wm_get hg
      rw [Nat.zero_add, Lf_set hjs, if_neg]
      rintro rfl
      rw [hx] at hy; cases hy; exact e hdy
  have hsz : (listed.setIfInBounds j true).size = ops.size := by simp [I.sz]
  have hput : ∀ {ρ' : Rn} {w' : World} {v : Value}, dOk N (dsO x.o) = true → o.dst = dsO x.o → ρ.LeL ρ' → VE ρ' (x.v C) v → MemR B ρ' (wrt (wm C T) 0 (Lf (listed.setIfInBounds j true)) () M0) w' →
      Inv B C N ops T e0 M0 (listed.setIfInBounds j true) (a.put o.dst v) w' := fun {ρ' w' v} hdk hds hle hv hm' => by
    refine ⟨hsz, hcl, ρ', fun t => ?_, hm', ?_, ?_⟩
    · rw [hnew t, hds]
      cases hdd : dsO x.o with
      | none => simp only [Act.put]; rw [if_neg (by simp)]; exact (i1 t).mono hle
      | some d =>
        rw [hdd] at hdk
        have hlt : d < N := by simpa [dOk] using hdk
        simp only [Act.put]
        rw [getD_set _ _ _ _ (by omega)]
        by_cases ht : d = t
        · subst ht; rw [if_pos rfl, if_pos rfl]; exact hv
        · rw [if_neg (by simpa using ht), if_neg ht]; exact (i1 t).mono hle
    · rw [hds]; cases dsO x.o <;> exact i3
    · rw [hds]; cases dsO x.o <;> simpa [Act.put] using i4
  -- the operation runs
  have hrunning : x.on = true → okO C x.e x.M (inn x.o) → sup (inn x.o) = true → dOk N (dsO (inn x.o)) = true → o.dst = dsO (inn x.o) → chkOp P (inn x.o) o.op = true → (∀ t, t ∈ tmpsO (opds (inn x.o)) → t ∈ looks x.o) → isGd (inn x.o) = false → o.wp P a w K Q := by
    intro hon hk hs hdk hds hco hlk hng
    have hv : x.v C = vlO C x.e x.M (inn x.o) := by simp [Tr.v, hon]
    have hmm : x.m C = mmO C x.e x.M (inn x.o) := by simp [Tr.m, hon]
    have key : okO C x.e (wrt (wm C T) 0 (Lf listed) () M0) (inn x.o) ∧ vlO C x.e (wrt (wm C T) 0 (Lf listed) () M0) (inn x.o) = vlO C x.e x.M (inn x.o) := by
      by_cases he : isEf (inn x.o) = true
      · rw [D.memE I.cl hx hl hr he]; exact ⟨hk, rfl⟩
      · by_cases hrd : isRd (inn x.o) = true
        · exact D.memR I.cl hx hl hr hon hk hrd
        · have := same_val (C := C) (M := wrt (wm C T) 0 (Lf listed) () M0) (M' := x.M) (e := x.e) (by simpa using he) (by simpa using hrd) hng
          exact ⟨by rw [this.1]; exact hk, this.2⟩
    have hOE : OE P ρ x.e a (opds (inn x.o)) := fun y z hy hc => chkX_sound i2 hG hc fun t ht => hlook t (hlk t (mem_tmpsO (ht ▸ hy)))
    refine sim_op hC hG hs hco key.1 hOE i2 K Q fun v w' ⟨ρ', g1, g2, g3⟩ => hK _ _ ?_
    rw [key.2, ← hv] at g2
    refine hput (by rw [dsO_inn]; exact hdk) (by rw [hds, ← dsO_inn]) g1 g2 ?_
    rw [hmnew]
    by_cases he : isEf (inn x.o) = true
    · rw [if_pos (by rw [hon, he]; rfl), hmm]
      rw [D.memE I.cl hx hl hr he] at g3
      exact g3
    · rw [if_neg (by rw [hon]; simpa using he)]
      rw [same_mem (by simpa using he)] at g3
      exact g3
  unfold wpOp
  rw [ho]
  simp only
  rcases gd_or x.o with ⟨t, b, y, hxo⟩ | hng
  · rw [hxo] at c1 c2 hd
    have hdd : sup y = true ∧ dOk N (dsO y) = true := by simpa [okD] using hd
    obtain ⟨d1, d2⟩ := chkO_in c1
    have hok' : (look x.e t = .b b ∧ x.on = true ∧ okO C x.e x.M y) ∨ (offV b (look x.e t) ∧ x.on = false) := by unfold Tr.ok at hok; rw [hxo] at hok; exact hok
    have hvt := hlook t (by rw [hxo]; simp [looks])
    have hin : inn x.o = y := by rw [hxo]; rfl
    rcases hok' with ⟨g1, g2, g3⟩ | ⟨g1, g2⟩
    · rw [g1] at hvt
      have hw := wanted_gd (a := a) c1 c2 (b' := b) hvt
      rw [if_pos (by rw [hw]; simp)]
      refine .inl (hrunning g2 (by rw [hin]; exact g3) (by rw [hin]; exact hdd.1) (by rw [hin]; exact hdd.2) (by rw [hin]; exact d1) (by rw [hin]; exact d2) (fun t' ht' => by rw [hin] at ht'; rw [hxo]; simp [looks, ht']) ?_)
      rw [hin]
      cases y <;> first | rfl | exact Bool.noConfusion (show false = true from hdd.1)
    · have hw : Region.wanted o (yielded ops a.tmps) = false := by
        rcases g1 with g1 | g1
        · rw [g1] at hvt
          rw [wanted_gd (a := a) c1 c2 (b' := !b) hvt]
          cases b <;> rfl
        · rw [g1] at hvt
          exact wanted_off (a := a) c1 c2 hvt.tp0
      rw [if_neg (by rw [hw]; simp)]
      refine hK _ _ (hput (ρ' := ρ) (by rw [hxo]; exact hdd.2) (by rw [hxo]; exact d1) (.refl ρ) (by simp only [Tr.v, g2]; exact VE.undef) ?_)
      rw [hmnew, if_neg (by rw [g2]; simp)]
      exact i2
  · rw [if_pos (wanted_ng hng c1)]
    rw [Tr.ok_ng hng] at hok
    rw [chkO_ng hng] at c1
    simp only [Bool.and_eq_true, beq_iff_eq] at c1
    rw [okD_ng hng] at hd
    have hs : sup x.o = true ∧ dOk N (dsO x.o) = true := by simpa using hd
    have hin := inn_ng hng
    exact .inl (hrunning hok.1 (by rw [hin]; exact hok.2) (by rw [hin]; exact hs.1) (by rw [hin]; exact hs.2) (by rw [hin]; exact c1.1.2) (by rw [hin]; exact c1.2) (fun t' ht' => by
      rw [hin] at ht'
      cases hxo : x.o <;> rw [hxo] at ht' hng <;> first | exact ht' | exact Bool.noConfusion (show true = false from hng)) (by rw [hin]; exact hng))
theorem Dr.all (D : Dr P C N ops l T e0 M0 e' M') (I : Inv B C N ops T e0 M0 listed a w) (h : Region.ready .any ops listed = []) : Ex B N e' M' a w := by
  have hall : ∀ j, j < ops.size → Lf listed j = true := by
    intro j
    induction j using Nat.strongRecOn with
    | ind j ih =>
      intro hj
      cases hl : Lf listed j
      · exfalso
        have hmem : j ∈ Region.ready .any ops listed := by
          refine mem_ready.2 ⟨?_, ops[j], by simp [hj], fun e he hb => ?_⟩
          · have := I.sz
            simp only [Lf, Array.getD_eq_getD_getElem?] at hl ⊢
            rw [Array.getElem?_eq_getElem (by omega)] at hl ⊢
            exact hl
          · obtain ⟨q1, -⟩ := trace_at l T 0 [] e0 M0 e' M' D.tr
            have hTl : T.length = ops.size := by rw [q1, ← Array.length_toList, ← chkOs_len D.chk, List.length_map]
            obtain ⟨p, o, -, h2, -, -, -, -, -, -, -, -, -, hedg⟩ := D.at (j := j) (x := T[j]'(by omega)) (List.getElem?_eq_getElem (by omega))
            have : o = ops[j] := by
              have : ops[j]? = some o := by simpa using h2
              rw [Array.getElem?_eq_getElem hj] at this
              exact (Option.some.inj this).symm
            subst this
            have hm : e.on ∈ edg ops[j] := List.mem_map.2 ⟨e, List.mem_filter.2 ⟨by simpa using he, hb⟩, rfl⟩
            have hlt := hedg _ hm
            exact ih _ hlt (by omega)
        rw [h] at hmem; cases hmem
      · rfl
  obtain ⟨q1, q2, q3, -⟩ := trace_at l T 0 [] e0 M0 e' M' D.tr
  have hTl : T.length = ops.size := by rw [q1, ← Array.length_toList, ← chkOs_len D.chk, List.length_map]
  obtain ⟨ρ, i1, i2, i3, i4⟩ := I.st
  refine ⟨ρ, fun t => ?_, ?_, i3, i4⟩
  · rw [q2 t (fun _ => true) fun _ _ => rfl]
    rw [wrt_congr (L' := Lf listed) fun k v hk => ?_]
    · exact i1 t
    · obtain ⟨y, hy, -⟩ := ws_get hk
      have := (List.getElem?_eq_some_iff.1 hy).1
      rw [Nat.zero_add, hall k (by omega)]
  · rw [q3 (fun _ => true) fun _ _ => rfl]
    rw [wrt_congr (L' := Lf listed) fun k v hk => ?_]
    · exact i2
    · obtain ⟨y, hy, -⟩ := wm_get hk
      have := (List.getElem?_eq_some_iff.1 hy).1
      rw [Nat.zero_add, hall k (by omega)]
theorem Dr.go (D : Dr P C N ops l T e0 M0 e' M') (hC : TabOK P C) (hG : B.G = P.globals.size) {Q : Exit → Act → World → Prop} (hQ : ∀ a w, Ex B N e' M' a w → Q .normal a w) :
    ∀ (fuel : Nat) (listed : Array Bool) (a : Act) (w : World), ops.size ≤ listed.toList.count true + fuel → Inv B C N ops T e0 M0 listed a w → wpAny P .any ops Q fuel listed a w
  | 0, listed, a, w, hf, I => by
    have hr : Region.ready .any ops listed = [] := by
      refine List.eq_nil_iff_forall_not_mem.2 fun j hj => ?_
      obtain ⟨o, ho, hjs, hl, -⟩ := ready_facts I.sz hj
      have hlen : listed.toList.count true = listed.toList.length := by
        have := List.count_le_length (a := true) (l := listed.toList)
        have := I.sz
        rw [Array.length_toList] at *
        omega
      have := List.count_eq_length.1 hlen (listed[j]) (by simp)
      simp only [Lf, Array.getD_eq_getD_getElem?] at hl
      rw [Array.getElem?_eq_getElem hjs] at hl
      simp only [Option.getD_some] at hl
      rw [hl] at this
      cases this
    exact ⟨hr, hQ _ _ (D.all I hr)⟩
  | fuel + 1, listed, a, w, hf, I => by
    refine ⟨fun hr => hQ _ _ (D.all I hr), fun j hj => D.step hC hG I hj fun a' w' I' => Dr.go D hC hG hQ fuel _ a' w' ?_ I'⟩
    obtain ⟨o, ho, hjs, hl, -⟩ := ready_facts I.sz hj
    simp only [Lf, Array.getD_eq_getD_getElem?] at hl
    rw [Array.getElem?_eq_getElem hjs] at hl
    simp only [Option.getD_some] at hl
    have hlj : listed.toList[j]'(by simpa using hjs) = false := by simpa using hl
    rw [Array.toList_setIfInBounds, List.count_set (by simpa using hjs), hlj, if_neg (by decide), if_pos (by decide)]
    omega
end
def chkP (P : Program) (N : Nat) (l : List PO) (ops : Array Oper) : Bool := chkOs P ops (l.map (·.o)) ops.toList && okDs N (l.map (·.o)) && parGo 0 [] [] l ops.toList
section
variable {P : Program} {B : Base} {C : Tab} {M : Mem} {w : World} {e : Env} {a : Act} {N : Nat}
theorem draw_ok {id : Nat} {ops : Array Oper} {Q : Exit → Act → World → Prop} {κ : Env → Mem → Prop} {l : List PO} (hC : TabOK P C) (hG : B.G = P.globals.size) (hmx : P.follows .mixedOrders = true) (hQ : ∀ e M a w, κ e M → Ex B N e M a w → Q .normal a w)
    (hc : chkP P N l ops = true) (hk : doPs C 0 [] l e M κ) (h : Ex B N e M a w) : (Code.region id ops true).wp P Q a w := by
  simp only [chkP, Bool.and_eq_true] at hc
  obtain ⟨T, e', M', hT, hκ⟩ := trace_of l 0 [] e M hk
  have D : Dr P C N ops l T e M e' M' := ⟨hT, hc.1.1, hc.1.2, hc.2⟩
  refine wp_region_any hmx (D.go hC hG (fun a w hx => hQ _ _ a w hκ hx) _ _ _ _ (by omega) ?_)
  obtain ⟨ρ, h⟩ := h
  have hL : ∀ k, Lf (Array.replicate ops.size false) k = false := fun k => by
    simp only [Lf, Array.getD_eq_getD_getElem?, Array.getElem?_replicate]
    split <;> rfl
  refine ⟨by simp, fun j o _ hj => (by rw [hL] at hj; cases hj), ρ, fun t => ?_, ?_, h.dfr, h.sz⟩
  · rw [wrt_none fun j v _ => hL _]; exact h.env t
  · rw [wrt_none fun j v _ => hL _]; exact h.mem.drew
end
end Go.Vm
/- What a function leaves behind: new objects under other names, and what nobody holds any more let go. -/
namespace Go.Vm
set_option linter.unusedVariables false
set_option linter.unusedSimpArgs false
def renP (φ : Nat → Nat) : AV → AV
  | .pv id off => .pv (φ id) off
  | .pe id ix off ext => .pe (φ id) ix off ext
  | .sl id ix len => .sl (φ id) ix len
  | .mp id => .mp (φ id)
  | a => a
def renA (φ : Nat → Nat) : AV → AV
  | .fn f caps => .fn f (caps.map (renP φ))
  | a => renP φ a
def ren1 (φ : Nat → Nat) : AV → AV
  | .ag xs => .ag (xs.map (renA φ))
  | a => renA φ a
def ren2 (φ : Nat → Nat) : AV → AV
  | .tp xs => .tp (xs.map (ren1 φ))
  | a => ren1 φ a
def renO (φ : Nat → Nat) : Ob → Ob
  | .no => .no
  | .arr rw st z xs => .arr rw st z (xs.map (ren1 φ))
  | .map rw es => .map rw (es.map fun e => (ren1 φ e.1, ren1 φ e.2))
/-- The function found H, left H1 and gave v1; told is that it gave v and left H'. -/
structure Rpk (H H1 : AH) (v1 v : AV) (H' : AH) (φ : Nat → Nat) : Prop where
  old : ∀ i, i < H.n → φ i = i
  inj : ∀ i j, i < H'.n → j < H'.n → φ i = φ j → i = j
  lt : ∀ i, i < H'.n → φ i < H1.n
  ge : ∀ i, H'.n ≤ i → H1.n ≤ φ i
  le : H.n ≤ H'.n
  obs : ∀ i, i < H'.n → (i < H.n ∧ H'.at' i = H.at' i ∧ H1.at' i = H.at' i) ∨ H1.at' (φ i) = renO φ (H'.at' i)
  val : v1 = ren2 φ v
section
variable {ρ : Rn} {φ : Nat → Nat}
theorem All2.map {α β γ : Type} {R : α → β → Prop} {f : γ → α} : ∀ {l : List γ} {m : List β}, All2 R (l.map f) m ↔ All2 (fun x y => R (f x) y) l m
  | [], [] => Iff.rfl
  | x :: l, y :: m => by simp only [List.map_cons, All2]; exact and_congr Iff.rfl All2.map
  | [], _ :: _ => Iff.rfl
  | _ :: _, [] => Iff.rfl
theorem All2.imp_mem {α β : Type} {R Q : α → β → Prop} : ∀ {l : List α} {m : List β}, (∀ x y, x ∈ l → R x y → Q x y) → All2 R l m → All2 Q l m
  | [], [], _, _ => trivial
  | x :: l, y :: m, h, hr => ⟨h x y (by simp) hr.1, All2.imp_mem (fun a b ha => h a b (by simp [ha])) hr.2⟩
  | [], _ :: _, _, h => h.elim
  | _ :: _, [], _, h => h.elim
theorem VA_P {a : AV} {v : Value} (h : ∀ f c, a ≠ .fn f c) : VA ρ a v = VP ρ a v ∧ renA φ a = renP φ a := by
  cases a <;> first | exact ⟨rfl, rfl⟩ | exact absurd rfl (h _ _)
theorem V1_A {a : AV} {v : Value} (h : ∀ xs, a ≠ .ag xs) : V1 ρ a v = VA ρ a v ∧ ren1 φ a = renA φ a := by
  cases a <;> first | exact ⟨rfl, rfl⟩ | exact absurd rfl (h _)
theorem V2_1 {a : AV} {v : Value} (h : ∀ xs, a ≠ .tp xs) : V2 ρ a v = V1 ρ a v ∧ ren2 φ a = ren1 φ a := by
  cases a <;> first | exact ⟨rfl, rfl⟩ | exact absurd rfl (h _)
theorem renP_fn {a : AV} {f : FuncId} {c : List AV} (h : renP φ a = .fn f c) : a = .fn f c := by
  cases a <;> first | exact h | cases h
theorem renA_ag {a : AV} {xs : List AV} (h : renA φ a = .ag xs) : a = .ag xs := by
  cases a <;> first | exact h | cases h
theorem ren1_tp {a : AV} {xs : List AV} (h : ren1 φ a = .tp xs) : a = .tp xs := by
  cases a <;> first | exact h | cases h
theorem ren1_cells (a : AV) : (ren1 φ a).cells = a.cells.map (renA φ) := by
  cases a <;> rfl
theorem flat_ren : ∀ l : List AV, flat (l.map (ren1 φ)) = (flat l).map (renA φ)
  | [] => rfl
  | x :: r => by simp [flat, ren1_cells, flat_ren r]
/-- An old value keeps its name. -/
theorem renP_old {n : Nat} (hf : ∀ i, n ≤ i → ρ.pl i = [] ∧ ρ.ob i = none) (ho : ∀ i, i < n → φ i = i) {a : AV} {v : Value} (h : VP ρ a v) : renP φ a = a := by
  have key : ∀ id p, p ∈ ρ.pl id → φ id = id := fun id p hp => by
    rcases Nat.lt_or_ge id n with h | h
    · exact ho id h
    · rw [(hf id h).1] at hp; cases hp
  cases a <;> try rfl
  case pv id off => obtain ⟨p, hp, -⟩ := h; simp only [renP, key id p hp]
  case pe id ix off ext => obtain ⟨p, hp, -⟩ := h; simp only [renP, key id p hp]
  case sl id ix len => obtain ⟨p, hp, -⟩ := h; simp only [renP, key id p hp]
  case mp id =>
    obtain ⟨b, hb, -⟩ := h
    simp only [renP]
    rcases Nat.lt_or_ge id n with h | h
    · rw [ho id h]
    · rw [(hf id h).2] at hb; cases hb
theorem map_old {R : AV → Value → Prop} {f : AV → AV} (h : ∀ x v, R x v → f x = x) : ∀ {l : List AV} {m : List Value}, All2 R l m → l.map f = l
  | [], [], _ => rfl
  | x :: l, y :: m, hr => by rw [List.map_cons, h x y hr.1, map_old h hr.2]
  | [], _ :: _, h => h.elim
  | _ :: _, [], h => h.elim
theorem renA_old {n : Nat} (hf : ∀ i, n ≤ i → ρ.pl i = [] ∧ ρ.ob i = none) (ho : ∀ i, i < n → φ i = i) {a : AV} {v : Value} (h : VA ρ a v) : renA φ a = a := by
  by_cases hn : ∃ f c, a = .fn f c
  · obtain ⟨f, caps, rfl⟩ := hn
    obtain ⟨rc, -, hc⟩ := h
    simp only [renA, map_old (fun x v hx => renP_old hf ho hx) hc]
  · have hn' : ∀ f c, a ≠ .fn f c := fun f c e => hn ⟨f, c, e⟩
    rw [(VA_P (φ := φ) hn').1] at h
    rw [(VA_P (ρ := ρ) (v := v) hn').2]
    exact renP_old hf ho h
theorem ren1_old {n : Nat} (hf : ∀ i, n ≤ i → ρ.pl i = [] ∧ ρ.ob i = none) (ho : ∀ i, i < n → φ i = i) {a : AV} {v : Value} (h : V1 ρ a v) : ren1 φ a = a := by
  by_cases hn : ∃ xs, a = .ag xs
  · obtain ⟨xs, rfl⟩ := hn
    obtain ⟨ys, -, hc⟩ := h
    simp only [ren1, map_old (fun x v hx => renA_old hf ho hx) hc]
  · have hn' : ∀ xs, a ≠ .ag xs := fun xs e => hn ⟨xs, e⟩
    rw [(V1_A (φ := φ) hn').1] at h
    rw [(V1_A (ρ := ρ) (v := v) hn').2]
    exact renA_old hf ho h
theorem ren1_of_flat : ∀ {xs : List AV}, (∀ x, x ∈ flat xs → renA φ x = x) → xs.map (ren1 φ) = xs
  | [], _ => rfl
  | a :: r, h => by
    rw [List.map_cons, ren1_of_flat fun x hx => h x (by simp [flat, hx])]
    congr 1
    have hc : ∀ x, x ∈ a.cells → renA φ x = x := fun x hx => h x (by simp [flat, hx])
    by_cases hn : ∃ ys, a = .ag ys
    · obtain ⟨ys, rfl⟩ := hn
      have hm : ys.map (renA φ) = ys := by
        have hc' : ∀ x, x ∈ ys → renA φ x = x := hc
        clear h hc
        induction ys with
        | nil => rfl
        | cons x l ih => rw [List.map_cons, hc' x (by simp), ih fun y hy => hc' y (by simp [hy])]
      simp only [ren1, hm]
    · have hn' : ∀ ys, a ≠ .ag ys := fun ys e => hn ⟨ys, e⟩
      rw [(V1_A (ρ := ⟨fun _ => [], fun _ => none, fun _ => .no, fun _ _ => none⟩) (v := undef) hn').2]
      exact hc a (by cases a <;> first | exact absurd rfl (hn' _) | simp [AV.cells])
/-- An old object that is as it was needs no new name. -/
theorem renO_old {n : Nat} {w : World} {id : Nat} (hf : ∀ i, n ≤ i → ρ.pl i = [] ∧ ρ.ob i = none) (ho : ∀ i, i < n → φ i = i) {o : Ob} (h : RepAt ρ w id o) : renO φ o = o := by
  cases o with
  | no => rfl
  | arr rw st z xs =>
    obtain ⟨-, p, rest, hA⟩ := h
    simp only [renO]
    rw [ren1_of_flat fun x hx => ?_]
    obtain ⟨v, hv⟩ := hA.hcl x hx
    exact renA_old hf ho hv
  | map rw es =>
    obtain ⟨b, -, -, ents, clk, -, he⟩ := h
    simp only [renO]
    congr 1
    have : ∀ {l : List (AV × AV)} {m : List MapEntry}, All2 (EntR ρ) l m → l.map (fun e => (ren1 φ e.1, ren1 φ e.2)) = l := by
      intro l
      induction l with
      | nil => intro m _; rfl
      | cons x l ih =>
        intro m hm
        cases m with
        | nil => exact hm.elim
        | cons y m => rw [List.map_cons, ih hm.2, ren1_old hf ho hm.1.1, ren1_old hf ho hm.1.2]
    exact this he
/-- The names that are kept. -/
def inv (φ : Nat → Nat) (n : Nat) (j : Nat) : Option Nat := (List.range n).find? fun i => φ i == j
theorem inv_some {n i : Nat} (hi : i < n) (hinj : ∀ i j, i < n → j < n → φ i = φ j → i = j) : inv φ n (φ i) = some i := by
  unfold inv
  cases h : (List.range n).find? fun k => φ k == φ i with
  | none =>
    have := List.find?_eq_none.1 h i (List.mem_range.2 hi)
    simp at this
  | some k =>
    have h1 := List.find?_some h
    have h2 := List.mem_range.1 (List.mem_of_find?_eq_some h)
    rw [hinj k i h2 hi (by simpa using h1)]
theorem inv_lt {n i j : Nat} (h : inv φ n j = some i) : i < n ∧ φ i = j := by
  have h1 := List.find?_some h
  exact ⟨List.mem_range.1 (List.mem_of_find?_eq_some h), by simpa using h1⟩
def Rn.pack (ρ : Rn) (φ : Nat → Nat) (n : Nat) : Rn :=
  { pl := fun i => if i < n then ρ.pl (φ i) else []
    ob := fun i => if i < n then ρ.ob (φ i) else none
    own := fun b => match ρ.own b with
      | .id j => (match inv φ n j with
        | some i => .id i
        | none => .no)
      | o => o
    lo := ρ.lo }
theorem VP.pack {n n1 : Nat} (hge : ∀ i, n ≤ i → n1 ≤ φ i) (hf : ∀ i, n1 ≤ i → ρ.pl i = [] ∧ ρ.ob i = none) {a : AV} {v : Value} (h : VP ρ (renP φ a) v) : VP (ρ.pack φ n) a v := by
  have key : ∀ id p, p ∈ ρ.pl (φ id) → p ∈ (ρ.pack φ n).pl id := fun id p hp => by
    simp only [Rn.pack]
    by_cases hi : id < n
    · rwa [if_pos hi]
    · rw [(hf _ (hge id (by omega))).1] at hp; cases hp
  cases a <;> try exact h
  case pv id off => obtain ⟨p, hp, hr⟩ := h; exact ⟨p, key id p hp, hr⟩
  case pe id ix off ext => obtain ⟨p, hp, hr⟩ := h; exact ⟨p, key id p hp, hr⟩
  case sl id ix len => obtain ⟨p, hp, hr⟩ := h; exact ⟨p, key id p hp, hr⟩
  case mp id =>
    obtain ⟨b, hb, hr⟩ := h
    refine ⟨b, ?_, hr⟩
    simp only [Rn.pack]
    by_cases hi : id < n
    · rwa [if_pos hi]
    · rw [(hf _ (hge id (by omega))).2] at hb; cases hb
theorem VA.pack {n n1 : Nat} (hge : ∀ i, n ≤ i → n1 ≤ φ i) (hf : ∀ i, n1 ≤ i → ρ.pl i = [] ∧ ρ.ob i = none) {a : AV} {v : Value} (h : VA ρ (renA φ a) v) : VA (ρ.pack φ n) a v := by
  by_cases hn : ∃ f c, a = .fn f c
  · obtain ⟨f, caps, rfl⟩ := hn
    obtain ⟨rc, e, hc⟩ := h
    exact ⟨rc, e, (All2.map.1 hc).mono fun _ _ => VP.pack hge hf⟩
  · have hn' : ∀ f c, a ≠ .fn f c := fun f c e => hn ⟨f, c, e⟩
    rw [(VA_P (ρ := ρ) (v := v) hn').2, (VA_P (φ := φ) fun f c e => hn' f c (renP_fn e)).1] at h
    exact VA.of (VP.pack hge hf h)
theorem V1.pack {n n1 : Nat} (hge : ∀ i, n ≤ i → n1 ≤ φ i) (hf : ∀ i, n1 ≤ i → ρ.pl i = [] ∧ ρ.ob i = none) {a : AV} {v : Value} (h : V1 ρ (ren1 φ a) v) : V1 (ρ.pack φ n) a v := by
  by_cases hn : ∃ xs, a = .ag xs
  · obtain ⟨xs, rfl⟩ := hn
    obtain ⟨ys, e, hc⟩ := h
    exact ⟨ys, e, (All2.map.1 hc).mono fun _ _ => VA.pack hge hf⟩
  · have hn' : ∀ xs, a ≠ .ag xs := fun xs e => hn ⟨xs, e⟩
    rw [(V1_A (ρ := ρ) (v := v) hn').2, (V1_A (φ := φ) fun xs e => hn' xs (renA_ag e)).1] at h
    exact V1.of (VA.pack hge hf h)
theorem V2.pack {n n1 : Nat} (hge : ∀ i, n ≤ i → n1 ≤ φ i) (hf : ∀ i, n1 ≤ i → ρ.pl i = [] ∧ ρ.ob i = none) {a : AV} {v : Value} (h : V2 ρ (ren2 φ a) v) : V2 (ρ.pack φ n) a v := by
  by_cases hn : ∃ xs, a = .tp xs
  · obtain ⟨xs, rfl⟩ := hn
    obtain ⟨ys, e, hc⟩ := h
    exact ⟨ys, e, (All2.map.1 hc).mono fun _ _ => V1.pack hge hf⟩
  · have hn' : ∀ xs, a ≠ .tp xs := fun xs e => hn ⟨xs, e⟩
    rw [(V2_1 (ρ := ρ) (v := v) hn').2, (V2_1 (φ := φ) fun xs e => hn' xs (ren1_tp e)).1] at h
    exact V2.of (V1.pack hge hf h)
theorem RepAt.pack {n n1 : Nat} {w : World} (hge : ∀ i, n ≤ i → n1 ≤ φ i) (hf : ∀ i, n1 ≤ i → ρ.pl i = [] ∧ ρ.ob i = none) (hinj : ∀ i j, i < n → j < n → φ i = φ j → i = j) {i : Nat} (hi : i < n) {o : Ob} (h : RepAt ρ w (φ i) (renO φ o)) : RepAt (ρ.pack φ n) w i o := by
  have hown : ∀ b rw, ρ.own b = ownOf rw (φ i) → (ρ.pack φ n).own b = ownOf rw i := fun b rw hb => by
    simp only [Rn.pack, hb]
    cases rw with
    | false => rfl
    | true => simp only [ownOf, if_true, inv_some hi hinj]
  cases o with
  | no => trivial
  | arr rw st z xs =>
    obtain ⟨hz, p, rest, hA⟩ := h
    have hlen : (xs.map (ren1 φ)).length = xs.length := List.length_map _
    have hval : ∀ q, Valid ρ w q (xs.map (ren1 φ)) rw → Valid (ρ.pack φ n) w q xs rw := fun q ⟨c, ty, fz, k1, k2, k3, k4, k5⟩ => by
      refine ⟨c, ty, fz, k1, k2, k3, k4, ?_⟩
      have e : told q (xs.map (ren1 φ)) = (told q xs).map (ren1 φ) := by simp [told, List.map_take, List.map_drop]
      rw [e, flat_ren] at k5
      exact (All2.map.1 k5).mono fun _ _ => VA.pack hge hf
    refine ⟨fun x hx => ?_, p, rest, ?_, by rw [hA.hx, hlen], hA.hs, hA.hz, hval p hA.hv, fun q hq => ⟨(hA.hown q hq).1, hown _ _ (hA.hown q hq).2⟩, hA.hst0, fun q hq => ?_, fun x hx => ?_⟩
    · have := hz (ren1 φ x) (List.mem_map_of_mem hx)
      rwa [ren1_cells, List.length_map] at this
    · simp only [Rn.pack, if_pos hi]; exact hA.hpl
    · obtain ⟨h1, h2, h3, h4, h5⟩ := hA.hrest q hq
      exact ⟨h1, by rw [← hlen]; exact h2, h3, h4, fun hs => hval q (h5 hs)⟩
    · obtain ⟨v, hv⟩ := hA.hcl (renA φ x) (by rw [flat_ren]; exact List.mem_map_of_mem hx)
      exact ⟨v, VA.pack hge hf hv⟩
  | map rw es =>
    obtain ⟨b, h1, h2, ents, clk, h3, h4⟩ := h
    refine ⟨b, ?_, hown _ _ h2, ents, clk, h3, ?_⟩
    · simp only [Rn.pack, if_pos hi]; exact h1
    · exact (All2.map.1 h4).mono fun _ _ hx => ⟨V1.pack hge hf hx.1, V1.pack hge hf hx.2⟩
/-- The step of a call, told in the names that are kept. -/
theorem Rpk.back {H H1 H' : AH} {v1 v : AV} {ρ' : Rn} {w w' : World} {r : Value} (R : Rpk H H1 v1 v H' φ) (hH : HeapR ρ H w) (hs : Stp ρ w ρ' w') (hv : V2 ρ' v1 r) (h1 : HeapR ρ' H1 w') :
    ∃ ρ'', Stp ρ w ρ'' w' ∧ V2 ρ'' v r ∧ HeapR ρ'' H' w' := by
  refine ⟨ρ'.pack φ H'.n, ⟨⟨fun id p hp => ?_, fun id b hb => ?_⟩, fun b hb => ?_, hs.frame, hs.sz, hs.os, hs.tape, hs.out⟩, ?_, ?_⟩
  · have hid : id < H.n := by
      rcases Nat.lt_or_ge id H.n with h | h
      · exact h
      · rw [(hH.fr id h).1] at hp; cases hp
    have := R.le
    obtain ⟨p', h2, h3⟩ := hs.le.pl id p hp
    refine ⟨p', ?_, h3⟩
    simp only [Rn.pack]
    rw [if_pos (by omega), R.old id hid]; exact h2
  · have hid : id < H.n := by
      rcases Nat.lt_or_ge id H.n with h | h
      · exact h
      · rw [(hH.fr id h).2] at hb; cases hb
    have := R.le
    simp only [Rn.pack]
    rw [if_pos (by omega), R.old id hid]; exact hs.le.ob id b hb
  · have ho := hs.own b hb
    simp only [Rn.pack, ho]
    cases hb' : ρ.own b with
    | no => rfl
    | loc => rfl
    | id j =>
      have hj := hH.ids b j hb'
      have := R.le
      have := inv_some (φ := φ) (n := H'.n) (i := j) (by omega) R.inj
      rw [R.old j hj] at this
      simp only [this]
  · rw [R.val] at hv
    exact hv.pack R.ge h1.fr
  · refine ⟨fun i hi => ?_, fun i hi => ?_, fun b hb => ?_, fun b i hb => ?_⟩
    · have hrep := h1.rep (φ i) (R.lt i hi)
      refine RepAt.pack R.ge h1.fr R.inj hi ?_
      rcases R.obs i hi with ⟨k1, k2, k3⟩ | k
      · rw [R.old i k1, k3] at hrep
        rw [R.old i k1, k2, renO_old hH.fr R.old (hH.rep i k1)]
        exact hrep
      · rw [← k]; exact hrep
    · simp only [Rn.pack]
      rw [if_neg (by omega), if_neg (by omega)]
      exact ⟨rfl, rfl⟩
    · simp only [Rn.pack, h1.bnd b hb]
    · simp only [Rn.pack] at hb
      cases hb' : ρ'.own b with
      | no => rw [hb'] at hb; cases hb
      | loc => rw [hb'] at hb; cases hb
      | id j =>
        rw [hb'] at hb
        simp only at hb
        cases hin : inv φ H'.n j with
        | none => rw [hin] at hb; cases hb
        | some k =>
          rw [hin] at hb
          cases hb
          exact (inv_lt hin).1
end
/-- What is told of a function's end. -/
def Fits (H H1 : AH) (v1 v : AV) (H' : AH) : Prop := (v1 = v ∧ H1 = H') ∨ ∃ φ, Rpk H H1 v1 v H' φ
theorem Fits.back {ρ ρ' : Rn} {H H1 H' : AH} {v1 v : AV} {w w' : World} {r : Value} (R : Fits H H1 v1 v H') (hH : HeapR ρ H w) (hs : Stp ρ w ρ' w') (hv : V2 ρ' v1 r) (h1 : HeapR ρ' H1 w') :
    ∃ ρ'', Stp ρ w ρ'' w' ∧ V2 ρ'' v r ∧ HeapR ρ'' H' w' := by
  rcases R with ⟨rfl, rfl⟩ | ⟨φ, R⟩
  · exact ⟨ρ', hs, hv, h1⟩
  · exact R.back hH hs hv h1
end Go.Vm
