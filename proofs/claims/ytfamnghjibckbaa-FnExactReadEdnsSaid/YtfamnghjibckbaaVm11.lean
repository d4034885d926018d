/- What an operation of the abstract machine means for Go's own: append. -/
import Derived.Test.YtfamnghjibckbaaVm10
import Derived.Laws.AppendOwn
namespace Go.Vm
set_option linter.unusedVariables false
set_option linter.unusedSimpArgs false
section ops
variable {P : Program} {B : Base} {C : Tab} {ρ : Rn} {M : Mem} {w : World} {e : Env} {a : Act} {o : Oper}
theorem enc_map (l : List UInt8) : (⟨l.toArray⟩ : ByteArray).data.map (fun b => Value.int .u8 b.toNat) = (l.map fun b => Value.int .u8 b.toNat).toArray := by simp
/-- What is appended: read. -/
theorem src_run {z : Nat} {Y : AV} {v : Value} (hm : MemR B ρ M w) (hy : VE ρ Y v) (hk : srcC M z Y) :
    ∃ cells : List Value, (∀ w', (Builtin.lenOf v).run P w' = .ok (srcV M Y).length w') ∧ (∀ w', w'.heap = w.heap → (Builtin.firstCells z (srcV M Y).length v).run P w' = .ok cells.toArray w') ∧
      All2 (VA ρ) (flat (srcV M Y)) cells ∧ (∀ x, x ∈ srcV M Y → x.cells.length = z) := by
  cases Y <;> simp only [srcC] at hk <;> try (exact (show False from hk.1).elim)
  case s l =>
    subst hk
    have hv : v = .string ⟨l.toArray⟩ := hy
    subst hv
    have hl : (srcV M (.s l)).length = l.length := by simp [srcV, encB]
    refine ⟨l.map fun b => Value.int .u8 b.toNat, fun w' => ?_, fun w' _ => ?_, ?_, encB_one l⟩
    · rw [hl]; simp [Builtin.lenOf, ba_size]
    · rw [hl]
      have hx : (⟨l.toArray⟩ : ByteArray).extract 0 l.length = ⟨l.toArray⟩ := by
        apply ByteArray.ext
        apply Array.ext'
        simp [ByteArray.data_extract]
      simp [Builtin.firstCells, hx]
    · show All2 (VA ρ) (flat (encB l)) _
      rw [encB_cells]; exact encB_rel l
  case ns =>
    have hv : v = .slice none 0 0 := hy
    subst hv
    exact ⟨[], fun w' => by simp [Builtin.lenOf, srcV, slEls], fun w' _ => by simp [Builtin.firstCells], by simp [srcV, slEls, flat, All2], by simp [srcV, slEls]⟩
  case sl id ix len =>
    obtain ⟨rw', st, z', xs, b, off, cap, c, ty, fz, q1, q2, q3, q4, q5, q6, q7⟩ := read_sl hm.heap (hy : VP ρ (.sl ..) _) hk.1
    have hzz : z' = z := by have := hk.2; simp only [slZ, q1] at this; exact this
    subst hzz
    have hin := hk.1
    simp only [slOk, q1] at hin
    have hs : srcV M (.sl id ix len) = slEls M.h (.sl id ix len) := rfl
    have hl : (slEls M.h (.sl id ix len)).length = len := by simp [slEls, q1]; omega
    rw [hs, hl, q3]
    refine ⟨(c.toList.drop off).take (len * z'), fun w' => by simp [Builtin.lenOf], fun w' he => ?_, q7, fun x hx => ?_⟩
    · have hmul : len * z' ≤ cap * z' := Nat.mul_le_mul_right _ q4
      have hz0 : cap = 0 → cap * z' = 0 := fun h => by rw [h, Nat.zero_mul]
      have := run_loadRow (P := P) (w := w') (n := len * z') (off := off) (by rw [he]; exact q5) (by omega)
      simpa [Builtin.firstCells] using this
    · simp only [slEls, q1] at hx
      exact q2 x (List.mem_of_mem_drop (List.mem_of_mem_take hx))
  case ll t g z' len =>
    obtain ⟨h1, h2, rfl⟩ := hk
    obtain ⟨b, q1, rfl⟩ := hy
    obtain ⟨hz, c, ty, v1, v2, v3⟩ := loc_cells hm q1 h1
    have hs : srcV M (.ll t g z' len) = M.getL t g 0 := rfl
    rw [hs, ← h2]
    refine ⟨c.toList, fun w' => by simp [Builtin.lenOf], fun w' he => ?_, v3, hz⟩
    have := run_loadRow (P := P) (w := w') (n := len * z') (off := 0) (by rw [he]; exact v1) (by rw [v2, h2]; omega)
    rw [List.drop_zero, List.take_of_length_le (by rw [Array.length_toList, v2, h2]; exact Nat.le_refl _)] at this
    simpa [Builtin.firstCells] using this
section
variable {t u ty el : TypeId} {i : TypeInfo} {zv : Value} {du : TypeDesc} {base : Option Addr} {sLen sCap n : Nat} {x : Value}
theorem run_append_new (ht : P.underlying t = some (.slice el)) (hu : P.underlying u = some du) (hd : ∀ k, du ≠ .int k) (hi : P.info? el = some i) (hz : i.zero = some zv) {news olds : Array Value}
    (hl : ∀ w, (Builtin.lenOf x).run P w = .ok n w) (hx : (Builtin.firstCells i.size n x).run P w.drew = .ok news w.drew) (ho : (Builtin.firstCells i.size sLen (.slice base sLen sCap)).run P w.drew = .ok olds w.drew)
    (hg : sCap < sLen + n) (hb : i.bytes ≠ 0) (hfit : Builtin.nextslicecap (sLen + n) sCap * i.bytes ≤ 281474976710656) :
    (Builtin.append_ #[t, u] ty #[.slice base sLen sCap, x]).run P w =
      .ok (.slice (some ⟨w.heap.size, 0, none⟩) (sLen + n) (grownCap w (sLen + n) sCap el)) (w.drew.alloc (.cells (olds ++ news ++ Builtin.zeroCells zv.cells (grownCap w (sLen + n) sCap el - (sLen + n))) el)) := by
  have hn : ¬ (sLen + n ≤ sCap) := by omega
  have h48' : ¬ (281474976710656 < Builtin.nextslicecap (sLen + n) sCap * i.bytes) := by omega
  have hzs : (match du with | .int _ => true | _ => false) = false := by
    cases du <;> first | rfl | exact absurd rfl (hd _)
  simp [Builtin.append_, run_underlying ht, run_underlying hu, sizeOf, typeInfo, zeroValue, hi, hz, hl, hzs, hn, hb, h48', Question.forced, hx, ho, newRow, grownCap]
theorem run_append_in (ht : P.underlying t = some (.slice el)) (hu : P.underlying u = some du) (hd : ∀ k, du ≠ .int k) (hi : P.info? el = some i) {news : Array Value} {w' : World}
    (hl : ∀ w, (Builtin.lenOf x).run P w = .ok n w) (hx : (Builtin.firstCells i.size n x).run P w = .ok news w) (hg : sLen + n ≤ sCap)
    (hs : ∀ ad, base = some ad → (storeCells (ad.add (sLen * i.size)) news.toList).run P w = .ok () w') (hs0 : base = none → w' = w) :
    (Builtin.append_ #[t, u] ty #[.slice base sLen sCap, x]).run P w = .ok (.slice base (sLen + n) sCap) w' := by
  have hzs : (match du with | .int _ => true | _ => false) = false := by
    cases du <;> first | rfl | exact absurd rfl (hd _)
  cases base with
  | none =>
    rw [hs0 rfl]
    simp [Builtin.append_, run_underlying ht, run_underlying hu, sizeOf, typeInfo, hi, hl, hzs, hg, hx]
  | some ad =>
    have := hs ad rfl
    simp [Builtin.append_, run_underlying ht, run_underlying hu, sizeOf, typeInfo, hi, hl, hzs, hg, hx, this]
end
theorem chk_ap {d z by' : Nat} {x y : Opd} (hc : chkOp P (.ap d x y z by') o.op = true) :
    ∃ c x' y' t u el i zv du, o.op = .call c ∧ c.callee = .builtin .append ∧ c.args = #[x', y'] ∧ c.argTypes = #[t, u] ∧ chkX P x x' = true ∧ chkX P y y' = true ∧ z ≠ 0 ∧ by' ≠ 0 ∧ P.underlying u = some du ∧ (∀ k, du ≠ .int k) ∧
      P.underlying t = some (.slice el) ∧ P.info? el = some i ∧ i.size = z ∧ i.bytes = by' ∧ i.zero = some zv ∧ zv.cells.size = z := by
  simp only [chkOp] at hc
  split at hc
  · rename_i c ho
    split at hc
    · rename_i x' y' t u hcal hargs htys
      simp only [Bool.and_eq_true, bne_iff_ne] at hc
      obtain ⟨⟨⟨⟨⟨h1, h2⟩, h3⟩, h4⟩, h5⟩, h6⟩ := hc
      have ha1 : c.args = #[x', y'] := by have := congrArg List.toArray hargs; simpa using this
      have ha2 : c.argTypes = #[t, u] := by have := congrArg List.toArray htys; simpa using this
      split at h6
      · rename_i el hel
        simp only [Bool.and_eq_true, beq_iff_eq] at h6
        obtain ⟨⟨h7, h8⟩, h9⟩ := h6
        split at h9
        · rename_i zv hzv
          obtain ⟨i, hi, hsz⟩ := szT_info h7
          have hby : i.bytes = by' := by unfold byT at h8; rw [hi] at h8; simpa using h8
          have hzi : i.zero = some zv := by unfold zeT at hzv; rw [hi] at hzv; simpa using hzv
          split at h5
          · cases h5
          · rename_i du hnd hdu
            exact ⟨c, x', y', t, u, el, i, zv, du, ho, hcal, ha1, ha2, h1, h2, h3, h4, hdu, fun k hk => hnd k hk, elT_und hel, hi, hsz, hby, hzi, by simpa using h9⟩
          · cases h5
        · cases h9
      · cases h6
    · cases hc
  · cases hc
theorem sim_ap {d z by' : Nat} {x y : Opd} (hc : chkOp P (.ap d x y z by') o.op = true) (hk : apC M z by' (evT e y) (evT e x)) (hE : OE P ρ e a [x, y]) (hm : MemR B ρ M w) :
    Sim P o a w (Out B ρ (apM M z (evT e y) (evT e x)) (apV M (evT e y) (evT e x))) := by
  obtain ⟨c, x', y', t, u', el, i, zv, du, ho, hcal, ha1, ha2, h1, h2, hz0, hb0, hdu, hnd, hut, hi, hsz, hby, hzi, hzs⟩ := chk_ap hc
  subst hsz hby
  have hx := hE x x' (by simp) h1
  have hy := hE y y' (by simp) h2
  have key : ∀ {v : Value} {w' : World} {M' : Mem} {r : AV}, (Builtin.append_ #[t, u'] o.type #[a.eval x', a.eval y']).run P w = .ok v w' → Out B ρ M' r v w' → Sim P o a w (Out B ρ M' r) := by
    intro v w' M' r hr ho'
    refine Sim.value (v := v) (w' := w') ?_ ho'
    simp [execOp, ho, resolve, hcal, ha1, ha2, invoke, builtin, hr]
  generalize evT e x = X at *
  generalize evT e y = Y at *
  have hsrc : srcC M i.size Y := by cases X <;> simp only [apC] at hk <;> first | exact hk.1 | exact hk.2.1
  obtain ⟨news, s1, s2, s3, s4⟩ := src_run (P := P) hm hy hsrc
  have hnl : (srcV M Y).length * i.size = news.length := by rw [← s3.len, flat_len s4]
  have hnewcap : ∀ need old, need ≤ grownCap w need old el := fun need old => by simp only [grownCap, Question.cut]; omega
  cases X <;> simp only [apC] at hk
  case ns =>
    have hx' : a.eval x' = .slice none 0 0 := hx
    simp only [apV, apM]
    by_cases hn : (srcV M Y).length = 0
    · rw [if_pos hn, if_pos hn]
      refine key (v := .slice none 0 0) (w' := w) ?_ (Out.same (VE.of (V2.of (V1.of (VA.of (show VP ρ .ns _ from rfl))))) hm)
      rw [hx']
      have := run_append_in (P := P) (w := w) (ty := o.type) (base := none) (sLen := 0) (sCap := 0) hut hdu hnd hi s1 (s2 w rfl) (by omega) (fun ad h => by cases h) (fun _ => rfl)
      rw [hn] at this
      exact this
    · rw [if_neg hn, if_neg hn]
      have hrun := run_append_new (P := P) (w := w) (ty := o.type) (base := none) (sLen := 0) (sCap := 0) hut hdu hnd hi hzi s1 (s2 w.drew rfl) (olds := #[]) (by simp [Builtin.firstCells]) (by omega) hb0 (by
        rw [Nat.zero_add, nextslicecap_zero (by omega)]; have := hk.2; omega)
      simp only [Nat.zero_add] at hrun
      have hcap := hnewcap (srcV M Y).length 0
      generalize hcp : grownCap w (srcV M Y).length 0 el = cap at *
      have hcs : ((#[] : Array Value) ++ news.toArray ++ Builtin.zeroCells zv.cells (cap - (srcV M Y).length)).size = cap * i.size := by
        simp only [Array.size_append, List.size_toArray, size_zeroCells, hzs, ← hnl, List.size_toArray]
        simp only [List.length_nil, Nat.zero_add]
        rw [← Nat.add_mul]; congr 1; omega
      have hmul : (srcV M Y).length * i.size ≤ cap * i.size := Nat.mul_le_mul_right _ hcap
      obtain ⟨k1, k2, k3⟩ := hm.newArr ((#[] : Array Value) ++ news.toArray ++ Builtin.zeroCells zv.cells (cap - (srcV M Y).length)) el (0, 0) i.size (srcV M Y) (w' := w.drew.alloc (.cells _ el)) (by simp) (fun b hb => heap_alloc_lt w.drew _ b hb) (heap_alloc_new w.drew _) rfl rfl rfl (fun i hi => by simp) s4
        (by rw [hcs]; exact hmul) (by
          have e1 : ((#[] : Array Value) ++ news.toArray ++ Builtin.zeroCells zv.cells (cap - (srcV M Y).length)).toList.take ((srcV M Y).length * i.size) = news := by
            rw [hnl]; simp
          rw [e1]; exact s3)
      refine key (by rw [hx']; exact hrun) ⟨_, k2, VE.of (V2.of (V1.of (VA.of (show VP _ (.sl M.h.n 0 (srcV M Y).length) _ from ⟨_, k3, Nat.le_refl _, by simp, 0, cap, hcap, .inl (by simp), .inr (Nat.le_of_eq (by rw [Nat.zero_add]; exact hcs.symm)), rfl⟩)))), k1⟩
  case sl id ix len =>
    obtain ⟨p, q1, q2, q3, off, cap, q4, q5, q6, hx'⟩ := (hx : VP ρ (.sl ..) _)
    have hid := pl_lt hm.heap q1
    obtain ⟨k1, -, k3⟩ := hk
    split at k1
    · rename_i rw' st z' xs hob
      obtain ⟨rfl, rfl, hend⟩ := k1
      obtain ⟨hz, p0, rest, hA, r1, r2, r3, r4, r5, r6⟩ := pl_obj hm.heap q1 hob
      have hpp := r4 (by omega)
      subst hpp
      have hxx := hA.hx
      obtain ⟨cc, ty, fz, v1, v2, v3, v4, v5⟩ := hA.hv
      have hown := hA.hown p (by simp)
      have hown2 : ρ.own p.b = .id id := hown.2
      simp only [apV, apM, hob]
      rw [r1] at q5 q6 v4 v5
      have hccl : cc.toList.length = p.c := by rw [Array.length_toList]; exact v2
      have hlz : (p.x - p.s) * i.size = (ix - p.s) * i.size + len * i.size := by rw [← Nat.add_mul]; congr 1; omega
      by_cases hfit : len + (srcV M Y).length ≤ cap
      · by_cases hn : (srcV M Y).length = 0
        · rw [if_pos hn, hn]
          have hnews : news = [] := List.eq_nil_of_length_eq_zero (by rw [← hnl, hn]; omega)
          refine key (v := .slice (some ⟨p.b, off, none⟩) len cap) (w' := w) ?_ (Out.same (VE.of (V2.of (V1.of (VA.of (show VP ρ (.sl id ix len) _ from ⟨p, q1, q2, q3, off, cap, q4, by rw [r1]; exact q5, by rw [r1]; exact q6, rfl⟩))))) hm)
          rw [hx']
          have := run_append_in (P := P) (w := w) (ty := o.type) (base := some ⟨p.b, off, none⟩) (sLen := len) (sCap := cap) hut hdu hnd hi s1 (s2 w rfl) hfit (w' := w) (fun ad h => by rw [hnews]; rfl) (fun _ => rfl)
          rw [hn] at this
          exact this
        · rw [if_neg hn]
          have hoff : off = p.o + (ix - p.s) * i.size := by rcases q5 with q5 | ⟨q5, q5'⟩ <;> omega
          have hmul : (len + (srcV M Y).length) * i.size ≤ cap * i.size := Nat.mul_le_mul_right _ hfit
          rw [Nat.add_mul] at hmul
          have hpos : p.o + (p.x - p.s) * i.size = off + len * i.size := by rw [hlz, hoff]; omega
          have hone := s3.ones
          have hst := run_storeRow (P := P) (off := off + len * i.size) news 0 v1 (fun j hj => v3 rfl j (by omega)) (by rw [← hnl]; omega) hone
          rw [Nat.add_zero] at hst
          have hrun := run_append_in (P := P) (w := w) (ty := o.type) (base := some ⟨p.b, off, none⟩) (sLen := len) (sCap := cap) hut hdu hnd hi s1 (s2 w rfl) hfit (fun ad h => by cases h; rw [add_eq, List.toList_toArray]; exact hst) (fun h => by cases h)
          have hsp : (splice cc.toList (off + len * i.size) news).length = cc.size := by rw [splice_len (by rw [← hnl, hccl]; omega), Array.length_toList]
          have hother : ∀ b, b ≠ p.b → (w.setRow p.b (splice cc.toList (off + len * i.size) news).toArray).heap[b]? = w.heap[b]? := fun b hb => setRow_other w p.b b _ hb
          have hh := hm.heap.growArr (ys := srcV M Y) (w' := w.setRow p.b (splice cc.toList (off + len * i.size) news).toArray) hid hz hA v1 (setRow_heap w p.b cc _ ty fz v1) (by rw [List.size_toArray, hsp, v2]) (v3 rfl) hother (by simp) s4 (by rw [hpos]; omega)
            (by rw [hpos, List.toList_toArray, splice_take_le (Nat.le_refl _) (by rw [hccl]; omega)]) (by rw [hpos, List.toList_toArray, hnl, splice_mid (by rw [hccl]; omega)]; exact s3)
          have hpl : { p with x := p.x + (srcV M Y).length } ∈ (ρ.growP id (srcV M Y).length).pl id := by simp [Rn.growP, hA.hpl]
          refine key (by rw [hx']; exact hrun) ⟨ρ.growP id (srcV M Y).length, Rn.le_growP, VE.of (V2.of (V1.of (VA.of (show VP _ (.sl id ix (len + (srcV M Y).length)) _ from ⟨_, hpl, q2, by simp only; omega, off, cap, hfit, .inl (by rw [hoff, r1]), by rw [r1]; exact q6, rfl⟩)))), ?_⟩
          exact hm.turn hh Rn.le_growP rfl (fun _ _ => rfl) (by simp) (fun b hb hn => hother b fun e => by rw [e, hown2] at hn; simp at hn) rfl rfl rfl
      · have hn : ¬ (srcV M Y).length = 0 := by omega
        rw [if_neg hn]
        -- the cells of old
        have hold : (Builtin.firstCells i.size len (.slice (some ⟨p.b, off, none⟩) len cap)).run P w.drew = .ok ((cc.toList.drop off).take (len * i.size)).toArray w.drew := by
          have hmul : len * i.size ≤ cap * i.size := Nat.mul_le_mul_right _ q4
          have hz0 : cap = 0 → cap * i.size = 0 := fun h => by rw [h, Nat.zero_mul]
          have := run_loadRow (P := P) (w := w.drew) (n := len * i.size) (off := off) (c := cc) v1 (by omega)
          simpa [Builtin.firstCells] using this
        have hle2 : (srcV M Y).length * i.bytes ≤ (len + (srcV M Y).length) * i.bytes := Nat.mul_le_mul_right _ (by omega)
        have hrun := run_append_new (P := P) (w := w) (ty := o.type) (base := some ⟨p.b, off, none⟩) (sLen := len) (sCap := cap) hut hdu hnd hi hzi s1 (s2 w.drew rfl) hold (by omega) hb0 (growslice_fits (by omega) k3)
        have hcap := hnewcap (len + (srcV M Y).length) cap
        generalize hcp : grownCap w (len + (srcV M Y).length) cap el = ncap at *
        have hol : ((cc.toList.drop off).take (len * i.size)).length = len * i.size := by
          have hmul : len * i.size ≤ cap * i.size := Nat.mul_le_mul_right _ q4
          have hz0 : cap = 0 → cap * i.size = 0 := fun h => by rw [h, Nat.zero_mul]
          simp; omega
        have hcs : (((cc.toList.drop off).take (len * i.size)).toArray ++ news.toArray ++ Builtin.zeroCells zv.cells (ncap - (len + (srcV M Y).length))).size = ncap * i.size := by
          simp only [Array.size_append, List.size_toArray, size_zeroCells, hzs, ← hnl, hol]
          rw [← Nat.add_mul, ← Nat.add_mul]; congr 1; omega
        have hmul : (len + (srcV M Y).length) * i.size ≤ ncap * i.size := Nat.mul_le_mul_right _ hcap
        have hdl : xs.length + (srcV M Y).length - ix = len + (srcV M Y).length := by omega
        have hh := hm.heap.moveArr (s := ix) (ys := srcV M Y) (w' := w.drew.alloc (.cells (((cc.toList.drop off).take (len * i.size)).toArray ++ news.toArray ++ Builtin.zeroCells zv.cells (ncap - (len + (srcV M Y).length))) el)) hid hz hA (by simp) (fun b hb => heap_alloc_lt w.drew _ b hb) (heap_alloc_new w.drew _) (fun i hi => by simp) (by omega) (by omega) s4
          (by rw [hcs, hdl]; exact hmul) (by
            rw [hdl]
            have e1 : (((cc.toList.drop off).take (len * i.size)).toArray ++ news.toArray ++ Builtin.zeroCells zv.cells (ncap - (len + (srcV M Y).length))).toList.take ((len + (srcV M Y).length) * i.size) = (cc.toList.drop off).take (len * i.size) ++ news := by
              have : (len + (srcV M Y).length) * i.size = ((cc.toList.drop off).take (len * i.size) ++ news).length := by rw [List.length_append, hol, ← hnl, Nat.add_mul]
              rw [this]
              simp only [Array.toList_append, List.toList_toArray]
              rw [List.take_left]
            rw [e1, flat_append]
            refine All2.append ?_ s3
            rcases Nat.eq_zero_or_pos len with hl0 | hpos
            · have : xs.drop ix = [] := List.drop_of_length_le (by omega)
              rw [this, hl0]; simp [flat, All2]
            · have hoff : off = p.o + (ix - p.s) * i.size := by rcases q5 with q5 | ⟨q5, q5'⟩ <;> omega
              have hz' : ∀ q, q ∈ told p xs → q.cells.length = i.size := fun q hq => hz q (List.mem_of_mem_take (List.mem_of_mem_drop hq))
              have := v5.drop ((ix - p.s) * i.size)
              rw [← flat_drop _ hz'] at this
              have ht : (told p xs).drop (ix - p.s) = xs.drop ix := by
                simp only [told, List.drop_drop]
                rw [List.take_of_length_le (by omega)]
                congr 1; omega
              rw [ht, List.drop_take, List.drop_drop, ← hoff, show (p.x - p.s) * i.size - (ix - p.s) * i.size = len * i.size by omega] at this
              exact this)
        have hpl : (⟨w.heap.size, 0, i.size, ix, xs.length + (srcV M Y).length, (((cc.toList.drop off).take (len * i.size)).toArray ++ news.toArray ++ Builtin.zeroCells zv.cells (ncap - (len + (srcV M Y).length))).size⟩ : Pl) ∈
            (ρ.moveP id ⟨w.heap.size, 0, i.size, ix, xs.length + (srcV M Y).length, (((cc.toList.drop off).take (len * i.size)).toArray ++ news.toArray ++ Builtin.zeroCells zv.cells (ncap - (len + (srcV M Y).length))).size⟩).pl id := by simp [Rn.moveP]
        refine key (by rw [hx']; exact hrun) ⟨_, Rn.le_moveP, VE.of (V2.of (V1.of (VA.of (show VP _ (.sl id ix (len + (srcV M Y).length)) _ from ⟨_, hpl, Nat.le_refl _, by simp only; omega, 0, ncap, hcap, .inl (by simp), .inr (Nat.le_of_eq (by rw [Nat.zero_add]; exact hcs.symm)), rfl⟩)))), ?_⟩
        exact hm.turn hh Rn.le_moveP rfl (fun b hb => by simp only [Rn.moveP]; rw [if_neg (by omega)]) (by simp) (fun b hb _ => heap_alloc_lt w.drew _ b hb) rfl rfl rfl
    · exact k1.elim
end ops
end Go.Vm
