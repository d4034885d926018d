/- What an operation of the abstract machine means for Go's own: operations on memory. -/
import Derived.Test.YtfamnghjibckbaaVm6
import Derived.Laws.Append
namespace Go.Vm
set_option linter.unusedVariables false
set_option linter.unusedSimpArgs false

section heap
variable {ρ : Rn} {H : AH} {w : World} {id st z : Nat} {rw : Bool} {xs : List AV} {p : Pl}
theorem pl_lt (h : HeapR ρ H w) (hp : p ∈ ρ.pl id) : id < H.n := by
  rcases Nat.lt_or_ge id H.n with hl | hl
  · exact hl
  · rw [(h.fr id hl).1] at hp; cases hp
/-- What a place tells of its object. -/
theorem pl_obj (h : HeapR ρ H w) (hp : p ∈ ρ.pl id) (ho : H.at' id = .arr rw st z xs) :
    (∀ x, x ∈ xs → x.cells.length = z) ∧ ∃ p0 rest, ArrR ρ w id rw st z xs p0 rest ∧ p.z = z ∧ p.s ≤ p.x ∧ p.x ≤ xs.length ∧ (p.x = xs.length → p = p0) ∧ (p = p0 ∨ st ≠ 2 → Valid ρ w p xs rw) ∧ (st = 0 → p = p0) := by
  have hr := h.rep id (pl_lt h hp)
  rw [ho] at hr
  obtain ⟨hz, p0, rest, hA⟩ := hr
  refine ⟨hz, p0, rest, hA, ?_⟩
  rw [hA.hpl] at hp
  rcases List.mem_cons.1 hp with rfl | hp
  · exact ⟨hA.hz, hA.hs, by rw [hA.hx]; exact Nat.le_refl _, fun _ => rfl, fun _ => hA.hv, fun _ => rfl⟩
  · obtain ⟨h1, h2, h3, h4, h5⟩ := hA.hrest p hp
    refine ⟨h1, h3, by omega, fun e => by omega, fun e => ?_, fun e => ?_⟩
    · rcases e with rfl | e
      · exact absurd rfl h4
      · exact h5 e
    · rw [(hA.hst0 e).1] at hp; cases hp
/-- A slice that may be read: its header, its block, its cells. -/
theorem read_sl {ix len : Nat} {v : Value} (h : HeapR ρ H w) (hv : VP ρ (.sl id ix len) v) (hk : slOk H (.sl id ix len)) :
    ∃ rw st z xs b off cap c ty fz, H.at' id = .arr rw st z xs ∧ (∀ x, x ∈ xs → x.cells.length = z) ∧ v = .slice (some ⟨b, off, none⟩) len cap ∧ len ≤ cap ∧ w.heap[b]? = some (.cells c ty fz) ∧ (cap = 0 ∨ off + cap * z ≤ c.size) ∧
      All2 (VA ρ) (flat (slEls H (.sl id ix len))) ((c.toList.drop off).take (len * z)) := by
  obtain ⟨p, q1, q2, q3, off, cap, q4, q5, q6, rfl⟩ := hv
  simp only [slOk] at hk
  split at hk
  · rename_i rw st z xs ho
    obtain ⟨hz, p0, rest, hA, k1, k2, k3, k4, k5, k6⟩ := pl_obj h q1 ho
    have hval : Valid ρ w p xs rw := k5 (by
      by_cases e : st = 2
      · exact .inl (k4 (by have := hk.2 e; omega))
      · exact .inr e)
    obtain ⟨c, ty, fz, v1, v2, v3, v4, v5⟩ := hval
    refine ⟨rw, st, z, xs, p.b, off, cap, c, ty, fz, ho, hz, rfl, q4, v1, by rw [v2, ← k1]; exact q6, ?_⟩
    simp only [slEls, ho]
    rcases Nat.eq_zero_or_pos len with rfl | hpos
    · simp [flat, All2]
    · have hoff : off = p.o + (ix - p.s) * p.z := by rcases q5 with q5 | ⟨q5, -⟩ <;> omega
      have ht : (told p xs).drop (ix - p.s) = (xs.take p.x).drop ix := by
        simp only [told, List.drop_drop]; congr 1; omega
      have hz' : ∀ x, x ∈ told p xs → x.cells.length = p.z := fun x hx => by rw [k1]; exact hz x (List.mem_of_mem_take (List.mem_of_mem_drop hx))
      have hz'' : ∀ x, x ∈ (xs.take p.x).drop ix → x.cells.length = p.z := fun x hx => by rw [k1]; exact hz x (List.mem_of_mem_take (List.mem_of_mem_drop hx))
      have e1 : (xs.drop ix).take len = ((xs.take p.x).drop ix).take len := by
        rw [List.drop_take, List.take_take, Nat.min_eq_left (by omega)]
      have := (v5.drop ((ix - p.s) * p.z)).take (len * p.z)
      rw [← flat_drop _ hz', ht, ← flat_take _ hz'', ← e1, List.drop_take, List.take_take, List.drop_drop, ← hoff, Nat.min_eq_left (by
        rw [← Nat.sub_mul]; exact Nat.mul_le_mul_right _ (by omega)), k1] at this
      exact this
  · exact hk.elim
theorem slEls_z (h : HeapR ρ H w) {ix len : Nat} (hp : p ∈ ρ.pl id) (hk : slZ H z (.sl id ix len)) : ∃ rw st xs, H.at' id = .arr rw st z xs := by
  simp only [slZ] at hk
  split at hk
  · rename_i rw st z' xs ho; subst hk; exact ⟨rw, st, xs, ho⟩
  · exact hk.elim
end heap

section ops
variable {P : Program} {B : Base} {C : Tab} {ρ : Rn} {M : Mem} {w : World} {e : Env} {a : Act} {o : Oper}
theorem decB_len : ∀ l : List AV, (decB l).length = l.length
  | [] => rfl
  | _ :: r => by simp [decB, decB_len r]
/-- Bytes' cells are their numbers. -/
theorem bytes_cells : ∀ {l : List AV} {m : List Value}, allU8 l → All2 (VA ρ) (flat l) m → ∃ ns : List Int, m = ns.map (Value.int .u8) ∧ l = ns.map (AV.i .u8)
  | [], [], _, _ => ⟨[], rfl, rfl⟩
  | x :: r, m, hu, h => by
    obtain ⟨⟨n, rfl⟩, hr⟩ := hu
    cases m with
    | nil => exact h.elim
    | cons y q =>
      obtain ⟨h1, h2⟩ := (h : VA ρ (.i .u8 n) y ∧ All2 (VA ρ) (flat r) q)
      obtain ⟨ns, e1, e2⟩ := bytes_cells hr h2
      exact ⟨n :: ns, by rw [e1]; simp only [List.map_cons]; rw [show y = Value.int .u8 n from h1], by rw [e2]; rfl⟩
  | [], _ :: _, _, h => h.elim
theorem foldl_push (ns : List Int) : ∀ s : ByteArray, (ns.foldl (fun r n => r.push (UInt8.ofNat n.toNat)) s) = ⟨(s.data.toList ++ decB (ns.map (AV.i .u8))).toArray⟩ := by
  induction ns with
  | nil => intro s; simp [decB]
  | cons n r ih =>
    intro s
    rw [List.foldl_cons, ih]
    apply ByteArray.ext
    apply Array.ext'
    simp [ByteArray.push, decB, AV.toI]
theorem sim_cbs {d : Nat} {x : Opd} (hc : chkOp P (.cbs d x) o.op = true) (hk : slOk M.h (evT e x) ∧ slZ M.h 1 (evT e x) ∧ allU8 (slEls M.h (evT e x))) (hE : OE P ρ e a [x]) (hm : MemR B ρ M w) :
    Sim P o a w (Out B ρ M (.s (decB (slEls M.h (evT e x))))) := by
  simp only [chkOp] at hc
  split at hc
  · rename_i s t x' ho
    simp only [Bool.and_eq_true] at hc
    obtain ⟨⟨h1, h2⟩, h3⟩ := hc
    obtain ⟨el, hu, hue⟩ := bytesT_und h2
    have hut := strT_und h3
    obtain ⟨k1, k2, k3⟩ := hk
    have hx := hE x x' (by simp) h1
    generalize evT e x = X at *
    cases X <;> simp only [slOk] at k1
    case ns =>
      have hx' : a.eval x' = .slice none 0 0 := hx
      refine Sim.value (v := .string .empty) ?_ (Out.same (VE.of (V2.of (V1.of (VA.of (show _ = _ from rfl))))) hm)
      simp [execOp, ho, hx', run_convert_bytes_string w s t el none 0 0 hu hue hut, Conv.bytesToString]
    case sl id ix len =>
      obtain ⟨rw, st, z, xs, b, off, cap, c, ty, fz, q1, q2, q3, q4, q5, q6, q7⟩ := read_sl hm.heap (hx : VP ρ (.sl ..) _) k1
      have hz1 : z = 1 := by simp only [slZ, q1] at k2; exact k2
      subst hz1
      obtain ⟨ns, e1, e2⟩ := bytes_cells k3 q7
      have hl := run_loadRow (P := P) (n := len) (off := off) q5 (by omega)
      rw [Nat.mul_one] at e1
      rw [e1] at hl
      have hr := run_bytesToString w ⟨b, off, none⟩ len cap ns hl
      refine Sim.value (v := .string ⟨(decB (slEls M.h (.sl id ix len))).toArray⟩) ?_ (Out.same (VE.of (V2.of (V1.of (VA.of (show _ = _ from rfl))))) hm)
      simp only [execOp, ho, q3, Sem.run_bind, run_convert_bytes_string w s t el _ _ _ hu hue hut, hr, Result.andThen_ok, foldl_push, e2]
      rfl
  · cases hc
theorem encB_one (l : List UInt8) : ∀ x, x ∈ encB l → x.cells.length = 1 := by
  intro x hx
  obtain ⟨b, -, rfl⟩ := List.mem_map.1 hx
  rfl
theorem encB_cells : ∀ l : List UInt8, flat (encB l) = encB l
  | [] => rfl
  | b :: r => by
    have := encB_cells r
    simp only [encB, List.map_cons, flat] at *
    rw [this]; rfl
theorem encB_rel : ∀ l : List UInt8, All2 (VA ρ) (encB l) (l.map fun b => Value.int .u8 b.toNat)
  | [] => trivial
  | b :: r => ⟨rfl, encB_rel r⟩
/-- A new object: the frame's memory with it. -/
theorem MemR.newArr {w' : World} (hm : MemR B ρ M w) (c : Array Value) (ty : TypeId) (fz : Nat × Nat) (z : Nat) (xs : List AV)
    (hsz : w'.heap.size = w.heap.size + 1) (hold : ∀ b, b < w.heap.size → w'.heap[b]? = w.heap[b]?) (hnew : w'.heap[w.heap.size]? = some (.cells c ty fz)) (hos : w'.os = w.os) (htp : w'.tape = w.tape) (hou : w'.output = w.output)
    (hfz : ∀ i, i < c.size → ¬ (fz.1 ≤ i ∧ i < fz.2)) (hz : ∀ x, x ∈ xs → x.cells.length = z) (hc : xs.length * z ≤ c.size) (hxs : All2 (VA ρ) (flat xs) (c.toList.take (xs.length * z))) :
    MemR B (ρ.newP M.h.n ⟨w.heap.size, 0, z, 0, xs.length, c.size⟩) ⟨M.l, M.g, M.h.new (.arr true 0 z xs)⟩ w' ∧ ρ.LeL (ρ.newP M.h.n ⟨w.heap.size, 0, z, 0, xs.length, c.size⟩) ∧
      ⟨w.heap.size, 0, z, 0, xs.length, c.size⟩ ∈ (ρ.newP M.h.n ⟨w.heap.size, 0, z, 0, xs.length, c.size⟩).pl M.h.n := by
  obtain ⟨h1, h2⟩ := hm.heap.newArr c ty fz z xs hsz hold hnew hfz hz hc hxs
  refine ⟨⟨h1, fun t g k vs hv => ?_, hm.lof, hm.loi, fun t g b z' hl => ?_, hm.le.trans h2.toLe, fun b hb hn => ?_, fun b hb => ?_, by have := hm.sz; omega, hos.trans hm.os, htp.trans hm.tape, hou.trans hm.out, fun g hg => ?_⟩, h2, by simp [Rn.newP]⟩
  · obtain ⟨b, z', hl, hr⟩ := hm.loc t g k vs hv
    have hb := (hm.lob _ _ _ _ hl).2.2
    refine ⟨b, z', hl, ?_⟩
    split at hr
    · obtain ⟨r1, c', ty', r2, r3, r4⟩ := hr
      exact ⟨r1, c', ty', (hold b hb).trans r2, r3, r4.mono fun _ _ => VA.mono h2.toLe⟩
    · obtain ⟨l, n, r1, r2⟩ := hr
      exact ⟨l, n, r1, (hold b hb).trans r2⟩
  · have hb := hm.lob t g b z' hl
    refine ⟨?_, hb.2.1, by omega⟩
    simp only [Rn.newP, if_neg (show ¬ b = w.heap.size by omega)]
    exact hb.1
  · have := hm.sz
    rw [hold b (by omega)]; exact hm.frame b hb hn
  · have := hm.sz
    simp only [Rn.newP, if_neg (show ¬ b = w.heap.size by omega)]
    exact hm.own b hb
  · obtain ⟨p, p1, p2, p3, p4⟩ := hm.glob g hg
    obtain ⟨p', k1, k2, k3, k4, k5, -⟩ := h2.pl g p p1
    exact ⟨p', k1, k2.trans p2, k3.trans p3, k5.trans p4⟩
theorem freeze_os (w : World) (a : Addr) (n : Nat) : (w.freeze a n).os = w.os := by unfold World.freeze; split <;> rfl
theorem freeze_tape (w : World) (a : Addr) (n : Nat) : (w.freeze a n).tape = w.tape := by unfold World.freeze; split <;> rfl
theorem freeze_out (w : World) (a : Addr) (n : Nat) : (w.freeze a n).output = w.output := by unfold World.freeze; split <;> rfl
/-- What an own variable's cells are. -/
theorem loc_cells (hm : MemR B ρ M w) {t g b z : Nat} (hl : ρ.lo t g = some (b, z)) (hk : M.hasL t g 0 = true) :
    (∀ x, x ∈ M.getL t g 0 → x.cells.length = z) ∧ ∃ c ty, w.heap[b]? = some (.cells c ty (0, 0)) ∧ c.size = (M.getL t g 0).length * z ∧ All2 (VA ρ) (flat (M.getL t g 0)) c.toList := by
  obtain ⟨xs, hxs⟩ := Option.isSome_iff_exists.1 (show (lookL M.l t g 0).isSome = true from hk)
  have hg : M.getL t g 0 = xs := by simp [Mem.getL, hxs]
  obtain ⟨b', z', hl', hr⟩ := hm.loc t g 0 xs hxs
  rw [hl] at hl'
  cases hl'
  rw [hg]
  exact hr
theorem sim_csb {d : Nat} {x : Opd} (hc : chkOp P (.csb d x) o.op = true) (hk : (evT e x).isS = true) (hE : OE P ρ e a [x]) (hm : MemR B ρ M w) :
    Sim P o a w (Out B ρ ⟨M.l, M.g, M.h.new (.arr true 0 1 (encB (evT e x).toS))⟩ (.sl M.h.n 0 (evT e x).toS.length)) := by
  simp only [chkOp] at hc
  split at hc
  · rename_i s t x' ho
    simp only [Bool.and_eq_true] at hc
    obtain ⟨⟨h1, h2⟩, h3⟩ := hc
    obtain ⟨el, hu, hue⟩ := bytesT_und h3
    have hus := strT_und h2
    have hx := ((hE x x' (by simp) h1).str hk).2
    generalize (evT e x).toS = l at *
    -- the capacity that is drawn
    have hcap : l.length ≤ (Question.appendCap l.length 0 el).cut (w.tape w.drawn (.appendCap l.length 0 el)) := by simp only [Question.cut]; omega
    generalize hcapn : (Question.appendCap l.length 0 el).cut (w.tape w.drawn (.appendCap l.length 0 el)) = cap at hcap
    let c : Array Value := (l.map fun b => Value.int .u8 b.toNat).toArray ++ Array.replicate (cap - l.length) (.int .u8 0)
    have hcs : c.size = cap := by simp [c]; omega
    have hrun : (execOp a.eval o).run P w = .ok (.value (.slice (some ⟨w.heap.size, 0, none⟩) l.length cap)) ((w.drew.alloc (.cells c el)).freeze ⟨w.heap.size, cap, none⟩ 1) := by
      have hsh : (w.drew.alloc (.cells c el)).shape? w.heap.size = some (el, cap) := by
        simp only [World.shape?]
        rw [show w.heap.size = w.drew.heap.size from rfl, heap_alloc_new]
        simp [hcs]
      simp only [execOp, ho, hx, Sem.run_bind, convert, run_und hus, run_und hu, run_und hue, Result.andThen_ok, Conv.stringToBytes, run_choose, ba_size, Question.forced, Bool.false_eq_true, if_false, hcapn, newRow]
      simp only [run_newObj, Result.andThen_ok, markStringish, run_shape]
      have hsame : (⟨l.toArray⟩ : ByteArray).data.map (fun b => Value.int .u8 b.toNat) ++ Array.replicate (cap - l.length) (Value.int .u8 0) = c := by simp [c]
      rw [hsame]
      have hw : ({ heap := w.heap.push (.cells c el), tape := w.tape, drawn := w.drawn + 1, os := w.os, output := w.output } : World) = w.drew.alloc (.cells c el) := rfl
      rw [hw]
      simp only [Sem.run_bind, Sem.run_pure, run_shape, Result.andThen_ok, hsh, run_freeze]
    have hnew : ((w.drew.alloc (.cells c el)).freeze ⟨w.heap.size, cap, none⟩ 1).heap[w.heap.size]? = some (.cells c el (cap, cap + 1)) := by
      have := heap_alloc_new w.drew (.cells c el)
      rw [show w.drew.heap.size = w.heap.size from rfl] at this
      simp only [World.freeze, Nat.one_ne_zero, if_false, Array.getElem?_modify, if_true, this]
      simp
    have hold : ∀ b, b < w.heap.size → ((w.drew.alloc (.cells c el)).freeze ⟨w.heap.size, cap, none⟩ 1).heap[b]? = w.heap[b]? := by
      intro b hb
      have := heap_alloc_lt w.drew (.cells c el) b hb
      simp only [World.freeze, Nat.one_ne_zero, if_false, Array.getElem?_modify]
      rw [if_neg (by omega)]
      exact this
    have hsz : ((w.drew.alloc (.cells c el)).freeze ⟨w.heap.size, cap, none⟩ 1).heap.size = w.heap.size + 1 := by simp [World.freeze]
    obtain ⟨hm', hle, hp⟩ := hm.newArr c el (cap, cap + 1) 1 (encB l) hsz hold hnew (freeze_os _ _ _) (freeze_tape _ _ _) (freeze_out _ _ _)
      (fun i hi => by simp only; omega) (encB_one l) (by simp [encB, hcs]; exact hcap) (by
        rw [encB_cells]
        have e1 : c.toList.take ((encB l).length * 1) = l.map fun b => Value.int .u8 b.toNat := by simp [c, encB]
        rw [e1]; exact encB_rel l)
    refine Sim.value hrun ⟨_, hle, VE.of (V2.of (V1.of (VA.of (show VP _ (.sl M.h.n 0 l.length) _ from ⟨_, hp, Nat.le_refl _, by simp [encB], 0, cap, hcap, .inl (by simp), .inr (by simp [hcs]), rfl⟩)))), hm'⟩
  · cases hc
theorem ld_run {t : TypeId} {n : Option Nat} {X : AV} {V : Value} (ht : nT P t = some n) (hk : ldC M n X) (hx : VE ρ X V) (hm : MemR B ρ M w) :
    ∃ ad v, V = .pointer (some ad) ∧ (loadVar t ad).run P w = .ok v w ∧ V1 ρ (ldX M n X) v := by
  ·
    cases X <;> simp only [ldC] at hk
    case pv id off =>
      obtain ⟨p, q1, q2, hx'⟩ := (hx : VP ρ (.pv ..) _)
      by_cases hn0 : n = some 0
      · subst hn0
        refine ⟨_, .agg #[], hx', ?_, (⟨#[], rfl, trivial⟩ : V1 ρ (.ag []) (.agg #[]))⟩
        simp [loadVar, run_isAgg_some ht, run_sizeT (nT_some ht).1, loadCells, loadCellsFrom]
      · rcases hk with hk | hk
        · exact absurd hk hn0
        · have hX : ldX M n (.pv id off) = ldV M n (.pv id off) := by
            unfold ldX; split
            · exact absurd rfl hn0
            · rfl
          rw [hX]
          simp only [ldV]
          split at hk
          · rename_i rw st z xs hob
            obtain ⟨hst, hf⟩ := hk
            obtain ⟨hz, p0, rest, hA, k1, k2, k3, k4, k5, k6⟩ := pl_obj hm.heap q1 hob
            have hpp := k6 hst
            obtain ⟨c, ty, fz, v1, v2, v3, v4, v5⟩ := k5 (.inl hpp)
            have hpx : p.x = xs.length := by rw [hpp]; exact hA.hx
            have ht' : told p xs = xs := by simp [told, q2, hpx]
            have hfl := flat_len hz
            rw [ht', q2, hpx, k1, Nat.sub_zero, ← hfl] at v5
            rw [q2, hpx, k1, Nat.sub_zero, ← hfl, ← v2] at v4
            obtain ⟨v, r1, r2⟩ := run_loadPart (P := P) (off := off) ht v1 v5 v4 hf
            exact ⟨_, v, hx', r1, r2⟩
          · exact hk.elim
    case pe id ix off ext =>
      obtain ⟨p, q1, q2, q3, q4, hx'⟩ := (hx : VP ρ (.pe ..) _)
      have hX : ldX M n (.pe id ix off ext) = ldV M n (.pe id ix off ext) := by unfold ldX; split <;> first | rfl | (rename_i h; cases h)
      rw [hX]
      simp only [ldV]
      split at hk
      · rename_i rw st z xs hob
        obtain ⟨hst, hix, hf⟩ := hk
        obtain ⟨hz, p0, rest, hA, k1, k2, k3, k4, k5, k6⟩ := pl_obj hm.heap q1 hob
        obtain ⟨c, ty, fz, v1, v2, v3, v4, v5⟩ := k5 (by
          by_cases e2 : st = 2
          · exact .inl (k4 (by have := hst e2; omega))
          · exact .inr e2)
        have hcl : (xs.getD ix .u).cells.length = z := by simp only [List.getD, List.getElem?_eq_getElem hix, Option.getD_some]; exact hz _ (List.getElem_mem hix)
        have hz' : ∀ x, x ∈ told p xs → x.cells.length = p.z := fun x hx => by rw [k1]; exact hz x (List.mem_of_mem_take (List.mem_of_mem_drop hx))
        have hti : ix - p.s < (told p xs).length := by simp [told]; omega
        have hel : (told p xs).getD (ix - p.s) .u = xs.getD ix .u := by
          simp only [told, List.getD, List.getElem?_drop, List.getElem?_take]
          rw [if_pos (by omega), show p.s + (ix - p.s) = ix by omega]
        have hcells := flat_getD (ix - p.s) hz' hti
        rw [hel] at hcells
        have hrel := (v5.drop ((ix - p.s) * p.z)).take p.z
        have hb1 : (ix - p.s + 1) * p.z ≤ (p.x - p.s) * p.z := Nat.mul_le_mul_right _ (by omega)
        rw [Nat.add_mul, Nat.one_mul] at hb1
        rw [← hcells, List.drop_take, List.take_take, List.drop_drop, Nat.min_eq_left (by omega)] at hrel
        rw [show p.z = (xs.getD ix .u).cells.length by rw [hcl, k1]] at hrel
        obtain ⟨v, r1, r2⟩ := run_loadPart (P := P) (off := off) (o := p.o + (ix - p.s) * p.z) ht v1 (by rw [← hcl] at k1; rw [k1]; exact hrel) (by rw [hcl, ← k1, v2]; omega) hf
        exact ⟨_, v, hx', r1, r2⟩
      · exact hk.elim
    case la t' g ix off =>
      obtain ⟨b, z, q1, hx'⟩ := hx
      have hX : ldX M n (.la t' g ix off) = ldV M n (.la t' g ix off) := by unfold ldX; split <;> first | rfl | (rename_i h; cases h)
      rw [hX]
      simp only [ldV]
      obtain ⟨hh, hix, hf⟩ := hk
      obtain ⟨hz, c, ty, v1, v2, v3⟩ := loc_cells hm q1 hh
      have hcl : ((M.getL t' g 0).getD ix .u).cells.length = z := by simp only [List.getD, List.getElem?_eq_getElem hix, Option.getD_some]; exact hz _ (List.getElem_mem hix)
      have hcells := flat_getD ix hz hix
      have hrel := (v3.drop (ix * z)).take z
      have hb1 : (ix + 1) * z ≤ (M.getL t' g 0).length * z := Nat.mul_le_mul_right _ hix
      rw [Nat.add_mul, Nat.one_mul] at hb1
      rw [← hcells] at hrel
      generalize hE2 : ((M.getL t' g 0).getD ix .u) = el at *
      obtain ⟨v, r1, r2⟩ := run_loadPart (P := P) (off := off) (o := ix * z) ht v1 (by rw [hcl]; exact hrel) (by rw [hcl, v2]; exact hb1) hf
      exact ⟨_, v, hx', r1, r2⟩
theorem sim_ld {d : Nat} {x : Opd} {n : Option Nat} (hc : chkOp P (.ld d x n) o.op = true) (hk : ldC M n (evT e x)) (hE : OE P ρ e a [x]) (hm : MemR B ρ M w) :
    Sim P o a w (Out B ρ M (ldX M n (evT e x))) := by
  simp only [chkOp] at hc
  split at hc
  · rename_i t x' ho
    simp only [Bool.and_eq_true, beq_iff_eq] at hc
    obtain ⟨h1, ht⟩ := hc
    obtain ⟨ad, v, h2, h3, h4⟩ := ld_run ht hk (hE x x' (by simp) h1) hm
    refine Sim.value (v := v) ?_ (Out.same (VE.of (V2.of h4)) hm)
    simp [execOp, ho, h2, Instr.loadAt, Instr.sureAddr, h3]
  · cases hc
end ops
end Go.Vm
