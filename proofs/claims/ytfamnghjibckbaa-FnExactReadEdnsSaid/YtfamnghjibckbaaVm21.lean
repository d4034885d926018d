/- A row's end: the first heap out of the arguments, and what a row asks behind a call that leaves all that was there. -/
import Derived.Test.YtfamnghjibckbaaVm20
import Derived.Below
import Derived.ChangeSame
import Derived.ChangeArms
import Derived.WideKeyArgs
namespace Go.Vm
set_option linter.unusedVariables false
set_option linter.unusedSimpArgs false
/-- A heap of which nothing may be written. -/
structure Fst (P : Program) (ρ : Rn) (H : AH) (w : World) : Prop where
  heap : HeapR ρ H w
  own : ∀ b, ρ.own b = .no
  glob : Globs ρ P.globals.size
section
variable {P : Program} {w : World}
def rn0 (G : Nat) : Rn := ⟨fun i => if i < G then [⟨i, 0, 1, 0, 0, 0⟩] else [], fun _ => none, fun _ => .no, fun _ _ => none⟩
theorem Fst.first : Fst P (rn0 P.globals.size) ⟨P.globals.size, fun _ => .no⟩ w :=
  ⟨⟨fun _ _ => trivial, fun i hi => ⟨by simp only [rn0]; rw [if_neg (by simpa using hi)], rfl⟩, fun _ _ => rfl, fun _ _ h => by cases h⟩, fun _ => rfl,
    fun g hg => ⟨⟨g, 0, 1, 0, 0, 0⟩, by simp only [rn0]; rw [if_pos hg]; simp, rfl, rfl, rfl⟩⟩
def Rn.addP (ρ : Rn) (id : Nat) (p : Pl) : Rn := { ρ with pl := fun i => if i = id then [p] else ρ.pl i }
theorem Fst.row {ρ : Rn} {H : AH} (h : Fst P ρ H w) {b o z : Nat} {c : Array Value} {ty : TypeId} {fz : Nat × Nat} {xs : List AV} (hb : w.heap[b]? = some (.cells c ty fz)) (hz : ∀ x, x ∈ xs → x.cells.length = z) (hc : o + xs.length * z ≤ c.size)
    (hxs : All2 (VA ρ) (flat xs) ((c.toList.drop o).take (xs.length * z))) :
    Fst P (ρ.addP H.n ⟨b, o, z, 0, xs.length, c.size⟩) (H.new (.arr false 0 z xs)) w ∧ ρ.Le (ρ.addP H.n ⟨b, o, z, 0, xs.length, c.size⟩) := by
  have hnil := (h.heap.fr H.n (Nat.le_refl _)).1
  have hle : ρ.Le (ρ.addP H.n ⟨b, o, z, 0, xs.length, c.size⟩) := ⟨fun i q hq => ⟨q, by
    simp only [Rn.addP]
    by_cases e : i = H.n
    · rw [e, hnil] at hq; cases hq
    · rwa [if_neg e], rfl, rfl, rfl, rfl, rfl, Nat.le_refl _⟩, fun _ _ h => h⟩
  refine ⟨⟨⟨fun i hi => ?_, fun i hi => ?_, h.heap.bnd, fun b' i hb' => absurd ((h.own b').symm.trans hb') (by simp)⟩, h.own, fun g hg => ?_⟩, hle⟩
  · by_cases e : i = H.n
    · subst e
      rw [new_at]
      refine ⟨hz, ⟨b, o, z, 0, xs.length, c.size⟩, [], ⟨by simp [Rn.addP], rfl, Nat.zero_le _, rfl, ⟨c, ty, fz, hb, rfl, fun h => Bool.noConfusion h, by simpa using hc, ?_⟩, fun q hq => ?_, fun _ => ⟨rfl, rfl⟩, fun q hq => (by cases hq), fun x hx => (hxs.ex x hx).imp fun _ => VA.mono hle⟩⟩
      · simp only [told, List.take_length, List.drop_zero, Nat.sub_zero]
        exact hxs.mono fun _ _ => VA.mono hle
      · simp only [List.mem_singleton] at hq
        subst hq
        exact ⟨(Array.getElem?_eq_some_iff.1 hb).1, h.own b⟩
    · have hlt : i < H.n := by simp at hi; omega
      rw [new_old hlt]
      exact (h.heap.rep i hlt).of hle (by simp [Rn.addP, e]) (Nat.le_refl _) fun _ _ _ => ⟨rfl, rfl⟩
  · have hi' : H.n + 1 ≤ i := hi
    simp only [Rn.addP]
    rw [if_neg (by omega)]
    exact h.heap.fr i (by omega)
  · obtain ⟨p, p1, p2, p3, p4⟩ := h.glob g hg
    obtain ⟨p', k1, k2, k3, k4, k5, -⟩ := hle.pl g p p1
    exact ⟨p', k1, k2.trans p2, k3.trans p3, k5.trans p4⟩
theorem Stp.below {ρ ρ' : Rn} {H : AH} {w' : World} (h : Stp ρ w ρ' w') (hf : Fst P ρ H w) : RowKit.Below w.heap.size w w' := ⟨h.os, h.tape, h.out, h.sz, fun k hk => h.frame k hk (.inl (hf.own k))⟩

/-! What a row asks. -/
variable {H : Type} {enc : TypeId × Value → H}
theorem trodAll_stays (hl : laidOutB P = true) {W W' : World} (hb : RowKit.Below W.heap.size W W') {sp : Nat → Bool} : ∀ {ts : List TypeId} {vs : List Value} {ds : List (DataW H)} {ps : List MemPlace}, (∀ t, t ∈ ts → P.readableRec t = true ∧ t < P.types.size) →
    DataW.TrodAll enc P W 0 (fun _ => true) true ts vs ds ps → (∀ p, p ∈ ps → p.block < W.heap.size) → (∀ p, p ∈ ps → sp p.block = true) → DataW.TrodAll enc P W' 0 sp true ts vs ds ps
  | [], [], [], _, _, h, _, _ => h
  | t :: ts, v :: vs, d :: ds, ps, hr, h, hlt, hsp => by
    obtain ⟨p, q, h1, h2, rfl⟩ := h
    obtain ⟨r1, r2⟩ := hr t (by simp)
    exact ⟨p, q, WideElems.Trod_stays hl r1 r2 h1 (fun x hx => hb.same (hlt x (List.mem_append_left _ hx))) (fun x hx => hsp x (List.mem_append_left _ hx)),
      trodAll_stays hl hb (fun t ht => hr t (by simp [ht])) h2 (fun x hx => hlt x (List.mem_append_right _ hx)) (fun x hx => hsp x (List.mem_append_right _ hx)), rfl⟩
  | [], _ :: _, _, _, _, h, _, _ => h.elim
  | [], [], _ :: _, _, _, h, _, _ => h.elim
  | _ :: _, [], _, _, _, h, _, _ => h.elim
  | _ :: _, _ :: _, [], _, _, h, _, _ => h.elim
open Go.ChangeShapes in
/-- Like the kit's, where the call may have laid frozen rows of its own. -/
theorem post_below {f : Func} {s : ChangeSpec} {apart fresh handsOn again : Bool} {W W' : World} {args : Array Value} {v : Value} {ds gs : List (DataW H)} {before pa pv : List MemPlace}
    (hW : DataW.Whole enc P f.params.toList s.vars apart W args.toList ds gs before)
    (hres : ∀ (b : Nat) (sp : Nat → Bool) (hd : Bool), DataW.TrodAll enc P W' b sp hd f.resultTypes.toList (v.resultList f.resultTypes.size) (s.fn H (ds ++ gs)).results [])
    (hargs : ∀ sp : Nat → Bool, (∀ p ∈ before, sp p.block = true) → DataW.TrodAll enc P W' 0 sp true f.params.toList args.toList (s.fn H (ds ++ gs)).args pa)
    (hvars : ∀ sp : Nat → Bool, (∀ p ∈ before, sp p.block = true) → DataW.TrodVars enc P W' sp s.vars (s.fn H (ds ++ gs)).vars pv)
    (hps : before = pa ++ pv) (hb : RowKit.Below W.heap.size W W')
    (hok : ∀ (j : Nat) (t : TypeId) (r : Value), f.resultTypes[j]? = some t → (v.resultList f.resultTypes.size)[j]? = some r → Value.okWide P W' .any 0 t r) :
    s.post enc P f apart fresh handsOn again W args v W' := by
  have hlt := hW.lt
  have hold : ∀ p ∈ before, (fun b => decide (b < W.heap.size)) p.block = true := fun p hp => by simpa using hlt p hp
  refine ⟨ds, gs, before, [], pa, pv, hW, hres _ _ _, hargs _ hold, hvars _ hold, World.keptBut_mono (fun p hp => ⟨hp, ?_⟩) (hb.frame (· ∈ before)), fun _ => ?_⟩
  · rw [hps, List.mem_append] at hp
    exact Or.inr hp
  · obtain ⟨_, _, _, _, _, hz, hn⟩ := hW
    refine ⟨hok, _, _, ([] ++ pa) ++ pv, ⟨[] ++ pa, pv, trodAll_append (hargs _ (fun _ _ => rfl)) (hres _ _ _), hvars _ (fun _ _ => rfl), rfl, ?_, ?_⟩, ?_⟩
    · intro b off hp
      have hp' : MemPlace.cell b off ∈ before := by rw [hps]; simpa using hp
      rw [hb.frozen (p := ⟨b, off, none⟩) (hlt _ hp')]
      exact hz b off hp'
    · intro ha
      have := hn ha
      rw [hps] at this
      simpa using this
    · intro p hp _
      rw [hps]
      simpa using hp
theorem cells_one (b o : Nat) : w.cells? 0 ⟨b, o, none⟩ 1 = (w.cell? ⟨b, o, none⟩).map fun v => [v] := by
  simp only [World.cells?, Nat.zero_le, if_true]
  show ((List.range 1).mapM fun i => w.cell? ((⟨b, o, none⟩ : Addr).add i)) = _
  rw [show List.range 1 = [0] from rfl]
  simp only [List.mapM_cons, List.mapM_nil, add_eq, Nat.add_zero]
  cases w.cell? ⟨b, o, none⟩ <;> rfl
/-- Bytes of a row. -/
theorem row_bytes {ρ : Rn} : ∀ (l : List Value), (∀ v, v ∈ l → ∃ n : Int, 0 ≤ n ∧ n ≤ 255 ∧ v = .int .u8 n) → ∃ bs : List UInt8, bs.length = l.length ∧ All2 (VA ρ) (encB bs) l
  | [], _ => ⟨[], rfl, trivial⟩
  | v :: r, h => by
    obtain ⟨n, h0, h1, rfl⟩ := h v (by simp)
    obtain ⟨bs, h2, h3⟩ := row_bytes r fun x hx => h x (by simp [hx])
    refine ⟨UInt8.ofNat n.toNat :: bs, by simp [h2], ?_, h3⟩
    have e : ((UInt8.ofNat n.toNat).toNat : Int) = n := by
      rw [UInt8.toNat_ofNat', Nat.mod_eq_of_lt (by omega)]; omega
    show (Value.int .u8 n) = .int .u8 ((UInt8.ofNat n.toNat).toNat : Int)
    rw [e]
theorem Fst.bytes {base : Nat} {ρ : Rn} {H0 : AH} (F : Fst P ρ H0 w) {t e : TypeId} (ht : P.underlying t = some (.slice e)) (he : P.underlying e = some (.int .u8)) (hce : P.cellsOf e = 1) {v : Value} {d : DataW H} {ps : List MemPlace}
    (hval : Value.okWide P w .any base t v) (hd : DataW.Trod enc P w 0 (fun _ => true) true t v d ps) : ∃ ρ' H' a l, Fst P ρ' H' w ∧ ρ.Le ρ' ∧ Ext H0 H' ∧ V1 ρ' a v ∧ Byt H' a l := by
  obtain ⟨a0, len, cap, rfl⟩ := WideShapes.okWide_slice ht hval
  obtain ⟨fuel, hd⟩ := hd
  have hcs : (Value.slice a0 len cap).cells.toList = [.slice a0 len cap] := rfl
  rw [hcs] at hd
  rcases DataW.trod_slice ht hd with ⟨h1, -⟩ | ⟨ad, len', cap', elems, rest, n, -, h2, -, -, h5, -, h7, h8, h9, -⟩
  · cases h1
    exact ⟨ρ, H0, .ns, [], F, .refl ρ, .refl H0, (show VP ρ .ns _ from rfl), Sl.nil⟩
  · cases h2
    simp only [Value.okWide, ht, Cell.okWide, Cell.ok] at hval
    obtain ⟨-, -, -, hsp, row, cells, hsh, -⟩ := hval
    obtain ⟨b, off, spot⟩ := ad
    have hsp' : spot = none := hsp
    subst hsp'
    have hsh' : w.shape? b = some (row, cells) := hsh
    obtain ⟨c, ty, fz, hb⟩ : ∃ c ty fz, w.heap[b]? = some (.cells c ty fz) := by
      unfold World.shape? at hsh'
      split at hsh'
      · rename_i c ty fz hb; exact ⟨c, ty, fz, hb⟩
      · cases hsh'
    have hcell : ∀ i, i < cap → ∃ m : Int, 0 ≤ m ∧ m ≤ 255 ∧ c[off + i]? = some (.int .u8 m) := by
      intro i hi
      have key : ∀ z, (w.cells? 0 ⟨b, off + i, none⟩ 1).bind (DataW.trod enc P w 0 (fun _ => true) true n e) = some z → ∃ m : Int, 0 ≤ m ∧ m ≤ 255 ∧ c[off + i]? = some (.int .u8 m) := by
        intro z hz
        rw [cells_one, cell_row hb] at hz
        cases hci : c[off + i]? with
        | none => rw [hci] at hz; cases hz
        | some u1 =>
          rw [hci] at hz
          obtain ⟨m, hm, -, hwf⟩ := DataW.trod_int he hz
          cases hm
          simp [Lit.wf, IntKind.min, IntKind.max, IntKind.signed, IntKind.bits] at hwf
          exact ⟨m, by omega, by omega, rfl⟩
      rw [hce] at h8 h9
      simp only [add_eq, Nat.mul_one] at h8 h9
      rcases Nat.lt_or_ge i len with hl | hl
      · have := h8 i hl
        exact key _ (this.trans (List.getElem?_eq_getElem (by omega)))
      · obtain ⟨h10, h11⟩ := h9 trivial
        have := h11 (i - len) (by omega)
        rw [show off + (len + (i - len)) = off + i by omega] at this
        exact key _ (this.trans (List.getElem?_eq_getElem (by omega)))
    have hsz : cap = 0 ∨ off + cap ≤ c.size := by
      rcases Nat.eq_zero_or_pos cap with h | h
      · exact .inl h
      · obtain ⟨m, -, -, hm⟩ := hcell (cap - 1) (by omega)
        have := (Array.getElem?_eq_some_iff.1 hm).1
        exact .inr (by omega)
    by_cases hl0 : len = 0
    · subst hl0
      have ho : ∃ o, o ≤ c.size ∧ (off = o ∨ cap = 0) := by
        rcases hsz with h | h
        · exact ⟨0, Nat.zero_le _, .inr h⟩
        · exact ⟨off, by omega, .inl rfl⟩
      obtain ⟨o, ho1, ho2⟩ := ho
      obtain ⟨F', hle⟩ := F.row (o := o) (z := 1) (xs := []) hb (by simp) (by simpa using ho1) (by simp [flat, All2])
      refine ⟨_, _, .sl H0.n 0 0, [], F', hle, .new _ _, ?_, ?_⟩
      · exact ⟨⟨b, o, 1, 0, 0, c.size⟩, by simp [Rn.addP], Nat.le_refl _, Nat.le_refl _, off, cap, h5, by rcases ho2 with h | h <;> simp [h], by simpa using hsz, rfl⟩
      · exact Sl.sl (els := []) (by simp) new_at (by simp) rfl (by simp)
    · obtain ⟨bs, hbs, hrel⟩ := row_bytes (ρ := ρ) ((c.toList.drop off).take len) (fun u1 hu => by
        obtain ⟨i, hi⟩ := List.getElem?_of_mem hu
        rw [List.getElem?_take] at hi
        split at hi
        · rename_i hlt
          rw [List.getElem?_drop] at hi
          obtain ⟨m, m0, m1, hm⟩ := hcell i (by omega)
          have : c.toList[off + i]? = some (.int .u8 m) := by simpa using hm
          rw [this] at hi
          cases hi
          exact ⟨m, m0, m1, rfl⟩
        · cases hi)
      have hlen : bs.length = len := by rw [hbs]; simp; omega
      obtain ⟨F', hle⟩ := F.row (o := off) (z := 1) (xs := encB bs) hb (encB_one bs) (by rw [enc_len]; omega) (by rw [encB_cells, enc_len, hlen, Nat.mul_one]; exact hrel)
      refine ⟨_, _, .sl H0.n 0 len, bs, F', hle, .new _ _, ?_, ?_⟩
      · exact ⟨⟨b, off, 1, 0, (encB bs).length, c.size⟩, by simp [Rn.addP], Nat.le_refl _, by simp [hlen], off, cap, h5, .inl (by simp), by simpa using hsz, rfl⟩
      · have := Sl.sl (H := H0.new (.arr false 0 1 (encB bs))) (z := 1) (id := H0.n) (ix := 0) (els := encB bs) (by simp) new_at (by simp) (by rw [List.drop_zero, List.take_length]) (by simp)
        rwa [enc_len, hlen] at this
end
end Go.Vm
