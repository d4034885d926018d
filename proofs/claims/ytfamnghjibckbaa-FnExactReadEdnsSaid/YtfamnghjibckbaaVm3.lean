/- The relation between abstract memory and Go's heap, and how it is kept: new rows, stores, appends, maps. -/
import Derived.Test.YtfamnghjibckbaaVm2
import Derived.Laws.CopyRow
import Derived.Laws.Cells
namespace Go.Vm
set_option linter.unusedVariables false
set_option linter.unusedSimpArgs false

def told (p : Pl) (xs : List AV) : List AV := (xs.take p.x).drop p.s
/-- What a place tells lies in its block. -/
def Valid (ρ : Rn) (w : World) (p : Pl) (xs : List AV) (rw : Bool) : Prop :=
  ∃ c ty fz, w.heap[p.b]? = some (.cells c ty fz) ∧ c.size = p.c ∧ (rw = true → ∀ i, i < p.c → ¬ (fz.1 ≤ i ∧ i < fz.2)) ∧
    p.o + (p.x - p.s) * p.z ≤ p.c ∧ All2 (VA ρ) (flat (told p xs)) ((c.toList.drop p.o).take ((p.x - p.s) * p.z))
def EntR (ρ : Rn) (e : AV × AV) (m : MapEntry) : Prop := V1 ρ e.1 m.key ∧ V1 ρ e.2 m.val
def ownOf (rw : Bool) (id : Nat) : Own := if rw then .id id else .no
structure ArrR (ρ : Rn) (w : World) (id : Nat) (rw : Bool) (st z : Nat) (xs : List AV) (p : Pl) (rest : List Pl) : Prop where
  hpl : ρ.pl id = p :: rest
  hx : p.x = xs.length
  hs : p.s ≤ p.x
  hz : p.z = z
  hv : Valid ρ w p xs rw
  hown : ∀ q, q ∈ p :: rest → q.b < w.heap.size ∧ ρ.own q.b = ownOf rw id
  hst0 : st = 0 → rest = [] ∧ p.s = 0
  hrest : ∀ q, q ∈ rest → q.z = z ∧ q.x < xs.length ∧ q.s ≤ q.x ∧ q.b ≠ p.b ∧ (st ≠ 2 → Valid ρ w q xs rw)
  hcl : ∀ x, x ∈ flat xs → ∃ v, VA ρ x v
def RepAt (ρ : Rn) (w : World) (id : Nat) : Ob → Prop
  | .no => True
  | .arr rw st z xs => (∀ x, x ∈ xs → x.cells.length = z) ∧ ∃ p rest, ArrR ρ w id rw st z xs p rest
  | .map rw es => ∃ b, ρ.ob id = some b ∧ ρ.own b = ownOf rw id ∧ ∃ ents clk, w.heap[b]? = some (.map ents clk) ∧ All2 (EntR ρ) es ents.toList
structure HeapR (ρ : Rn) (H : AH) (w : World) : Prop where
  rep : ∀ id, id < H.n → RepAt ρ w id (H.at' id)
  fr : ∀ id, H.n ≤ id → ρ.pl id = [] ∧ ρ.ob id = none
  bnd : ∀ b, w.heap.size ≤ b → ρ.own b = .no
  ids : ∀ b id, ρ.own b = .id id → id < H.n

theorem ownOf_loc (rw : Bool) (id : Nat) : ownOf rw id ≠ .loc := by cases rw <;> simp [ownOf]
theorem Valid.of {ρ ρ' : Rn} {w w' : World} {p : Pl} {xs : List AV} {rw : Bool} (h : Valid ρ w p xs rw) (hl : ρ.Le ρ') (hb : w'.heap[p.b]? = w.heap[p.b]?) : Valid ρ' w' p xs rw := by
  obtain ⟨c, ty, fz, h1, h2, h3, h4, h5⟩ := h
  exact ⟨c, ty, fz, hb.trans h1, h2, h3, h4, h5.mono fun _ _ => VA.mono hl⟩
theorem EntR.mono {ρ ρ' : Rn} (hl : ρ.Le ρ') {e : AV × AV} {m : MapEntry} (h : EntR ρ e m) : EntR ρ' e m := ⟨h.1.mono hl, h.2.mono hl⟩

/-- A world that differs where no abstract object lies, or where another one's lies; a renaming that says more. -/
theorem RepAt.of {ρ ρ' : Rn} {w w' : World} {id : Nat} {o : Ob} (h : RepAt ρ w id o) (hl : ρ.Le ρ') (hp : ρ'.pl id = ρ.pl id) (hsz : w.heap.size ≤ w'.heap.size)
    (hw : ∀ b, b < w.heap.size → (ρ.own b = .no ∨ ρ.own b = .id id) → ρ'.own b = ρ.own b ∧ w'.heap[b]? = w.heap[b]?) : RepAt ρ' w' id o := by
  cases o with
  | no => trivial
  | arr rw st z xs =>
    obtain ⟨hz, p, rest, hA⟩ := h
    have hn : ∀ q, q ∈ p :: rest → ρ'.own q.b = ρ.own q.b ∧ w'.heap[q.b]? = w.heap[q.b]? := fun q hq =>
      hw q.b (hA.hown q hq).1 (by rw [(hA.hown q hq).2]; cases rw <;> simp [ownOf])
    refine ⟨hz, p, rest, ⟨hp.trans hA.hpl, hA.hx, hA.hs, hA.hz, hA.hv.of hl (hn p (by simp)).2, fun q hq => ⟨Nat.lt_of_lt_of_le (hA.hown q hq).1 hsz, (hn q hq).1.trans (hA.hown q hq).2⟩, hA.hst0, fun q hq => ?_, fun x hx => (hA.hcl x hx).imp fun _ => VA.mono hl⟩⟩
    obtain ⟨h1, h2, h3, h4, h5⟩ := hA.hrest q hq
    exact ⟨h1, h2, h3, h4, fun hs => (h5 hs).of hl (hn q (by simp [hq])).2⟩
  | map rw es =>
    obtain ⟨b, h1, h2, ents, clk, h3, h4⟩ := h
    have hlt := (Array.getElem?_eq_some_iff.1 h3).1
    have hn := hw b hlt (by rw [h2]; cases rw <;> simp [ownOf])
    exact ⟨b, hl.ob _ _ h1, hn.1.trans h2, ents, clk, hn.2.trans h3, h4.mono fun _ _ => EntR.mono hl⟩

/-- Nothing that abstract objects own has turned. -/
theorem HeapR.of {ρ ρ' : Rn} {H : AH} {w w' : World} (h : HeapR ρ H w) (hl : ρ.Le ρ') (hp : ρ'.pl = ρ.pl) (ho : ρ'.ob = ρ.ob) (hsz : w.heap.size ≤ w'.heap.size)
    (hw : ∀ b, b < w.heap.size → ρ.own b ≠ .loc → ρ'.own b = ρ.own b ∧ w'.heap[b]? = w.heap[b]?)
    (hb : ∀ b, w'.heap.size ≤ b → ρ'.own b = .no) (hi : ∀ b id, ρ'.own b = .id id → ρ.own b = .id id) : HeapR ρ' H w' :=
  ⟨fun id hid => (h.rep id hid).of hl (by rw [hp]) hsz fun b hb hn => hw b hb (by rcases hn with hn | hn <;> rw [hn] <;> simp),
   fun id hid => by rw [hp, ho]; exact h.fr id hid, hb, fun b id hid => h.ids b id (hi b id hid)⟩
/-- The world's counter, its tape: nothing of the heap. -/
theorem HeapR.heap {ρ : Rn} {H : AH} {w w' : World} (h : HeapR ρ H w) (he : w'.heap = w.heap) : HeapR ρ H w' :=
  h.of (.refl ρ) rfl rfl (by rw [he]; exact Nat.le_refl _) (fun b _ _ => ⟨rfl, by rw [he]⟩) (fun b hb => h.bnd b (by rwa [he] at hb)) fun _ _ h => h

/-! New objects. -/
def Rn.newP (ρ : Rn) (id : Nat) (p : Pl) : Rn := { ρ with pl := fun i => if i = id then [p] else ρ.pl i, own := fun b => if b = p.b then .id id else ρ.own b }
def Rn.newO (ρ : Rn) (id b : Nat) : Rn := { ρ with ob := fun i => if i = id then some b else ρ.ob i, own := fun b' => if b' = b then .id id else ρ.own b' }
theorem Rn.le_newP {ρ : Rn} {id : Nat} {p : Pl} (h : ρ.pl id = []) : ρ.LeL (ρ.newP id p) :=
  ⟨⟨fun i q hq => ⟨q, by
      simp only [Rn.newP]
      by_cases e : i = id
      · rw [e, h] at hq; cases hq
      · rwa [if_neg e], rfl, rfl, rfl, rfl, rfl, Nat.le_refl _⟩, fun _ _ h => h⟩, fun _ _ _ h => h⟩
theorem Rn.le_newO {ρ : Rn} {id b : Nat} (h : ρ.ob id = none) : ρ.LeL (ρ.newO id b) :=
  ⟨⟨fun i q hq => ⟨q, hq, rfl, rfl, rfl, rfl, rfl, Nat.le_refl _⟩, fun i b' hb => by
      simp only [Rn.newO]
      by_cases e : i = id
      · rw [e, h] at hb; cases hb
      · rwa [if_neg e]⟩, fun _ _ _ h => h⟩
theorem heap_alloc_lt (w : World) (o : Obj) (b : Nat) (h : b < w.heap.size) : (w.alloc o).heap[b]? = w.heap[b]? := by
  show (w.heap.push o)[b]? = _
  rw [Array.getElem?_push, if_neg (by omega)]
theorem heap_alloc_new (w : World) (o : Obj) : (w.alloc o).heap[w.heap.size]? = some o := by
  show (w.heap.push o)[w.heap.size]? = _
  rw [Array.getElem?_push, if_pos rfl]

theorem HeapR.newArr {ρ : Rn} {H : AH} {w w' : World} (h : HeapR ρ H w) (c : Array Value) (ty : TypeId) (fz : Nat × Nat) (z : Nat) (xs : List AV)
    (hsz : w'.heap.size = w.heap.size + 1) (hold : ∀ b, b < w.heap.size → w'.heap[b]? = w.heap[b]?) (hnew : w'.heap[w.heap.size]? = some (.cells c ty fz)) (hfz : ∀ i, i < c.size → ¬ (fz.1 ≤ i ∧ i < fz.2))
    (hz : ∀ x, x ∈ xs → x.cells.length = z) (hc : xs.length * z ≤ c.size) (hxs : All2 (VA ρ) (flat xs) (c.toList.take (xs.length * z))) :
    HeapR (ρ.newP H.n ⟨w.heap.size, 0, z, 0, xs.length, c.size⟩) (H.new (.arr true 0 z xs)) w' ∧ ρ.LeL (ρ.newP H.n ⟨w.heap.size, 0, z, 0, xs.length, c.size⟩) := by
  have hle : ρ.LeL (ρ.newP H.n ⟨w.heap.size, 0, z, 0, xs.length, c.size⟩) := Rn.le_newP (h.fr H.n (Nat.le_refl _)).1
  refine ⟨⟨fun id hid => ?_, fun id hid => ?_, fun b hb => ?_, fun b id hid => ?_⟩, hle⟩
  · by_cases e : id = H.n
    · subst e
      simp only [AH.new, if_pos]
      refine ⟨hz, ⟨w.heap.size, 0, z, 0, xs.length, c.size⟩, [], ⟨by simp [Rn.newP], rfl, Nat.zero_le _, rfl, ⟨c, ty, fz, hnew, rfl, fun _ => hfz, by simpa using hc, ?_⟩, ?_, fun _ => ⟨rfl, rfl⟩, fun q hq => (by cases hq), fun x hx => (hxs.ex x hx).imp fun _ => VA.mono hle.toLe⟩⟩
      · simp only [told, List.take_length, List.drop_zero, Nat.sub_zero]
        exact hxs.mono fun _ _ => VA.mono hle.toLe
      · intro q hq
        simp only [List.mem_singleton] at hq
        subst hq
        exact ⟨by simp [hsz], by simp [Rn.newP, ownOf]⟩
    · have hlt : id < H.n := by simp only [AH.new] at hid; omega
      simp only [AH.new, if_neg e]
      refine (h.rep id hlt).of hle.toLe (by simp [Rn.newP, e]) (by omega) fun b hb hn => ⟨?_, hold b hb⟩
      simp only [Rn.newP, if_neg (show ¬ b = w.heap.size by omega)]
  · simp only [AH.new] at hid
    simp only [Rn.newP, if_neg (show ¬ id = H.n by omega)]
    exact h.fr id (by omega)
  · simp only [Rn.newP, if_neg (show ¬ b = w.heap.size by omega)]
    exact h.bnd b (by omega)
  · simp only [Rn.newP] at hid
    by_cases e : b = w.heap.size
    · rw [if_pos e] at hid
      cases hid
      simp [AH.new]
    · rw [if_neg e] at hid
      have := h.ids b id hid
      simp only [AH.new]; omega
theorem HeapR.newMap {ρ : Rn} {H : AH} {w w' : World} (h : HeapR ρ H w)
    (hsz : w'.heap.size = w.heap.size + 1) (hold : ∀ b, b < w.heap.size → w'.heap[b]? = w.heap[b]?) (hnew : w'.heap[w.heap.size]? = some (.map #[] 0)) :
    HeapR (ρ.newO H.n w.heap.size) (H.new (.map true [])) w' ∧ ρ.LeL (ρ.newO H.n w.heap.size) := by
  have hle : ρ.LeL (ρ.newO H.n w.heap.size) := Rn.le_newO (h.fr H.n (Nat.le_refl _)).2
  refine ⟨⟨fun id hid => ?_, fun id hid => ?_, fun b hb => ?_, fun b id hid => ?_⟩, hle⟩
  · by_cases e : id = H.n
    · subst e
      simp only [AH.new, if_pos]
      exact ⟨w.heap.size, by simp [Rn.newO], by simp [Rn.newO, ownOf], #[], 0, hnew, trivial⟩
    · have hlt : id < H.n := by simp only [AH.new] at hid; omega
      simp only [AH.new, if_neg e]
      refine (h.rep id hlt).of hle.toLe (by simp [Rn.newO]) (by omega) fun b hb hn => ⟨?_, hold b hb⟩
      simp only [Rn.newO, if_neg (show ¬ b = w.heap.size by omega)]
  · simp only [AH.new] at hid
    simp only [Rn.newO, if_neg (show ¬ id = H.n by omega)]
    exact h.fr id (by omega)
  · simp only [Rn.newO, if_neg (show ¬ b = w.heap.size by omega)]
    exact h.bnd b (by omega)
  · simp only [Rn.newO] at hid
    by_cases e : b = w.heap.size
    · rw [if_pos e] at hid
      cases hid
      simp [AH.new]
    · rw [if_neg e] at hid
      have := h.ids b id hid
      simp only [AH.new]; omega

/-! An object turned: its newest place's block holds other cells. -/
theorem HeapR.setArr {ρ : Rn} {H : AH} {w w' : World} (h : HeapR ρ H w) {id st z : Nat} {xs xs' : List AV} {p : Pl} {rest : List Pl}
    (hid : id < H.n) (hA : ArrR ρ w id true st z xs p rest) {c' : Array Value} {ty : TypeId} {fz : Nat × Nat}
    (hw : w'.heap[p.b]? = some (.cells c' ty fz)) (hc : c'.size = p.c) (hfz : ∀ i, i < p.c → ¬ (fz.1 ≤ i ∧ i < fz.2)) (hold : ∀ b, b ≠ p.b → w'.heap[b]? = w.heap[b]?) (hsz : w'.heap.size = w.heap.size)
    (hlen : xs'.length = xs.length) (hz : ∀ x, x ∈ xs' → x.cells.length = z) (hcl : ∀ x, x ∈ flat xs' → ∃ v, VA ρ x v)
    (hxs : All2 (VA ρ) (flat (xs'.drop p.s)) ((c'.toList.drop p.o).take ((p.x - p.s) * p.z))) :
    HeapR ρ (H.set id (.arr true (if st = 0 then 0 else 2) z xs')) w' := by
  refine ⟨fun i hi => ?_, h.fr, fun b hb => h.bnd b (by omega), h.ids⟩
  by_cases e : i = id
  · subst e
    simp only [AH.set, if_pos]
    have hpx := hA.hx
    obtain ⟨c, ty0, fz0, hv1, hv2, hv3, hv4, hv5⟩ := hA.hv
    refine ⟨hz, p, rest, ⟨hA.hpl, by rw [hlen]; exact hA.hx, hA.hs, hA.hz, ⟨c', ty, fz, hw, hc, fun _ => hfz, hv4, ?_⟩, fun q hq => ⟨by rw [hsz]; exact (hA.hown q hq).1, (hA.hown q hq).2⟩, ?_, fun q hq => ?_, hcl⟩⟩
    · simp only [told, hpx, ← hlen, List.take_length]
      rw [hlen, ← hpx]
      exact hxs
    · intro hs
      by_cases e0 : st = 0
      · exact hA.hst0 e0
      · simp [e0] at hs
    · obtain ⟨h1, h2, h3, h4, -⟩ := hA.hrest q hq
      refine ⟨h1, by omega, h3, h4, fun hs => ?_⟩
      by_cases e0 : st = 0
      · have := (hA.hst0 e0).1; rw [this] at hq; cases hq
      · simp [e0] at hs
  · simp only [AH.set, if_neg e]
    have hpo := hA.hown p (by simp)
    refine (h.rep i hi).of (.refl ρ) rfl (by omega) fun b hb hn => ⟨rfl, hold b fun eb => ?_⟩
    rw [eb, hpo.2] at hn
    simp [ownOf] at hn
    exact e hn.symm

/-- Elements behind the last one, in the newest place's block. -/
def Rn.growP (ρ : Rn) (id n : Nat) : Rn := { ρ with pl := fun i => if i = id then (match ρ.pl id with | p :: r => { p with x := p.x + n } :: r | [] => []) else ρ.pl i }
theorem Rn.le_growP {ρ : Rn} {id n : Nat} : ρ.LeL (ρ.growP id n) :=
  ⟨⟨fun i q hq => by
      by_cases e : i = id
      · subst e
        cases hp : ρ.pl i with
        | nil => rw [hp] at hq; cases hq
        | cons p r =>
          rw [hp] at hq
          rcases List.mem_cons.1 hq with rfl | hq
          · exact ⟨{ q with x := q.x + n }, by simp [Rn.growP, hp], rfl, rfl, rfl, rfl, rfl, by simp⟩
          · exact ⟨q, by simp [Rn.growP, hp, hq], rfl, rfl, rfl, rfl, rfl, Nat.le_refl _⟩
      · exact ⟨q, by simpa [Rn.growP, e] using hq, rfl, rfl, rfl, rfl, rfl, Nat.le_refl _⟩, fun _ _ h => h⟩, fun _ _ _ h => h⟩
theorem HeapR.growArr {ρ : Rn} {H : AH} {w w' : World} (h : HeapR ρ H w) {id st z : Nat} {xs ys : List AV} {p : Pl} {rest : List Pl}
    (hid : id < H.n) (hxz : ∀ x, x ∈ xs → x.cells.length = z) (hA : ArrR ρ w id true st z xs p rest) {c c' : Array Value} {ty : TypeId} {fz : Nat × Nat}
    (hwc : w.heap[p.b]? = some (.cells c ty fz))
    (hw : w'.heap[p.b]? = some (.cells c' ty fz)) (hc : c'.size = p.c) (hfz : ∀ i, i < p.c → ¬ (fz.1 ≤ i ∧ i < fz.2)) (hold : ∀ b, b ≠ p.b → w'.heap[b]? = w.heap[b]?) (hsz : w'.heap.size = w.heap.size)
    (hz : ∀ x, x ∈ ys → x.cells.length = z) (hfit : p.o + (p.x - p.s) * z + ys.length * z ≤ p.c)
    (hpre : c'.toList.take (p.o + (p.x - p.s) * z) = c.toList.take (p.o + (p.x - p.s) * z))
    (hys : All2 (VA ρ) (flat ys) ((c'.toList.drop (p.o + (p.x - p.s) * z)).take (ys.length * z))) :
    HeapR (ρ.growP id ys.length) (H.set id (.arr true (if st = 2 then 2 else 1) z (xs ++ ys))) w' := by
  have hle : ρ.LeL (ρ.growP id ys.length) := Rn.le_growP
  have hpl : (ρ.growP id ys.length).pl id = { p with x := p.x + ys.length } :: rest := by simp [Rn.growP, hA.hpl]
  refine ⟨fun i hi => ?_, fun i hi => ?_, fun b hb => h.bnd b (by omega), h.ids⟩
  · by_cases e : i = id
    · subst e
      simp only [AH.set, if_pos]
      obtain ⟨c0, ty0, fz0, hv1, hv2, hv3, hv4, hv5⟩ := hA.hv
      have hxx := hA.hx
      have hss := hA.hs
      have hzz := hA.hz
      have hcc : c0 = c := by rw [hv1] at hwc; cases hwc; rfl
      subst hcc
      refine ⟨fun x hx => (List.mem_append.1 hx).elim (hxz x) (hz x), { p with x := p.x + ys.length }, rest, ⟨hpl, by simp [hxx], by simp; omega, hzz, ⟨c', ty, fz, hw, hc, fun _ => hfz, ?_, ?_⟩, fun q hq => ?_, ?_, fun q hq => ?_, fun x hx => ?_⟩⟩
      · show p.o + (p.x + ys.length - p.s) * p.z ≤ p.c
        rw [hzz, show p.x + ys.length - p.s = (p.x - p.s) + ys.length by omega, Nat.add_mul]; omega
      · show All2 _ (flat (((xs ++ ys).take (p.x + ys.length)).drop p.s)) ((c'.toList.drop p.o).take ((p.x + ys.length - p.s) * p.z))
        have e1 : (xs ++ ys).take (p.x + ys.length) = xs ++ ys := List.take_of_length_le (by simp [hxx])
        have e2 : (xs ++ ys).drop p.s = xs.drop p.s ++ ys := List.drop_append_of_le_length (by omega)
        rw [e1, e2, flat_append, hzz, show p.x + ys.length - p.s = (p.x - p.s) + ys.length by omega, Nat.add_mul, List.take_add]
        refine All2.append ?_ ?_
        · have e3 : (c'.toList.drop p.o).take ((p.x - p.s) * z) = (c0.toList.drop p.o).take ((p.x - p.s) * z) := by
            have := congrArg (List.drop p.o) hpre
            rwa [List.drop_take, List.drop_take, show p.o + (p.x - p.s) * z - p.o = (p.x - p.s) * z by omega] at this
          rw [e3]
          simp only [told, hxx, List.take_length, hzz] at hv5
          rw [← hxx] at hv5
          exact hv5.mono fun _ _ => VA.mono hle.toLe
        · rw [List.drop_drop]
          exact hys.mono fun _ _ => VA.mono hle.toLe
      · have := hA.hown
        rcases List.mem_cons.1 hq with rfl | hq
        · exact ⟨by rw [hsz]; exact (this p (by simp)).1, (this p (by simp)).2⟩
        · exact ⟨by rw [hsz]; exact (this q (by simp [hq])).1, (this q (by simp [hq])).2⟩
      · intro hs0
        split at hs0 <;> omega
      · obtain ⟨h1, h2, h3, h4, h5⟩ := hA.hrest q hq
        refine ⟨h1, by simp; omega, h3, h4, fun hs => ?_⟩
        have hs2 : st ≠ 2 := fun e2 => by simp [e2] at hs
        obtain ⟨cq, tq, fq, k1, k2, k3, k4, k5⟩ := h5 hs2
        refine ⟨cq, tq, fq, (hold q.b h4).trans k1, k2, k3, k4, ?_⟩
        have e1 : told q (xs ++ ys) = told q xs := by
          simp only [told]
          rw [List.take_append_of_le_length (by omega)]
        rw [e1]
        exact k5.mono fun _ _ => VA.mono hle.toLe
      · rw [flat_append] at hx
        rcases List.mem_append.1 hx with hx | hx
        · exact (hA.hcl x hx).imp fun _ => VA.mono hle.toLe
        · exact (hys.ex x hx).imp fun _ => VA.mono hle.toLe
    · simp only [AH.set, if_neg e]
      have hpo := hA.hown p (by simp)
      refine (h.rep i hi).of hle.toLe (by simp [Rn.growP, e]) (by omega) fun b hb hn => ⟨rfl, hold b fun eb => ?_⟩
      rw [eb, hpo.2] at hn
      simp [ownOf] at hn
      exact e hn.symm
  · have hi' : H.n ≤ i := hi
    have hne : i ≠ id := by omega
    simp only [Rn.growP, if_neg hne]
    exact h.fr i hi'

/-- Elements behind the last one, in a new block. -/
def Rn.moveP (ρ : Rn) (id : Nat) (p : Pl) : Rn := { ρ with pl := fun i => if i = id then p :: ρ.pl id else ρ.pl i, own := fun b => if b = p.b then .id id else ρ.own b }
theorem Rn.le_moveP {ρ : Rn} {id : Nat} {p : Pl} : ρ.LeL (ρ.moveP id p) :=
  ⟨⟨fun i q hq => ⟨q, by
      simp only [Rn.moveP]
      by_cases e : i = id
      · subst e; simp [hq]
      · rwa [if_neg e], rfl, rfl, rfl, rfl, rfl, Nat.le_refl _⟩, fun _ _ h => h⟩, fun _ _ _ h => h⟩
theorem HeapR.moveArr {ρ : Rn} {H : AH} {w w' : World} (h : HeapR ρ H w) {id st z s : Nat} {xs ys : List AV} {p : Pl} {rest : List Pl}
    (hid : id < H.n) (hxz : ∀ x, x ∈ xs → x.cells.length = z) (hA : ArrR ρ w id true st z xs p rest) {c : Array Value} {ty : TypeId} {fz : Nat × Nat}
    (hsz : w'.heap.size = w.heap.size + 1) (hold : ∀ b, b < w.heap.size → w'.heap[b]? = w.heap[b]?) (hnew : w'.heap[w.heap.size]? = some (.cells c ty fz)) (hfz : ∀ i, i < c.size → ¬ (fz.1 ≤ i ∧ i < fz.2))
    (hs : s ≤ xs.length) (hy : 0 < ys.length) (hz : ∀ x, x ∈ ys → x.cells.length = z) (hfit : (xs.length + ys.length - s) * z ≤ c.size)
    (hxs : All2 (VA ρ) (flat (xs.drop s ++ ys)) (c.toList.take ((xs.length + ys.length - s) * z))) :
    HeapR (ρ.moveP id ⟨w.heap.size, 0, z, s, xs.length + ys.length, c.size⟩) (H.set id (.arr true (if st = 2 then 2 else 1) z (xs ++ ys))) w' := by
  have hle : ρ.LeL (ρ.moveP id ⟨w.heap.size, 0, z, s, xs.length + ys.length, c.size⟩) := Rn.le_moveP
  have hxx := hA.hx
  refine ⟨fun i hi => ?_, fun i hi => ?_, fun b hb => ?_, fun b i hi => ?_⟩
  · by_cases e : i = id
    · subst e
      simp only [AH.set, if_pos]
      refine ⟨fun x hx => (List.mem_append.1 hx).elim (hxz x) (hz x), ⟨w.heap.size, 0, z, s, xs.length + ys.length, c.size⟩, p :: rest, ⟨by simp [Rn.moveP, hA.hpl], by simp, by simp; omega, rfl, ⟨c, ty, fz, hnew, rfl, fun _ => hfz, by simpa using hfit, ?_⟩, fun q hq => ?_, ?_, fun q hq => ?_, fun x hx => ?_⟩⟩
      · simp only [told]
        rw [List.take_of_length_le (by simp), List.drop_append_of_le_length hs, List.drop_zero]
        exact hxs.mono fun _ _ => VA.mono hle.toLe
      · rcases List.mem_cons.1 hq with rfl | hq
        · exact ⟨by simp [hsz], by simp [Rn.moveP, ownOf]⟩
        · have := hA.hown q hq
          exact ⟨by omega, by simp only [Rn.moveP]; rw [if_neg (by omega)]; exact this.2⟩
      · intro hs0
        split at hs0 <;> omega
      · have hlt := (hA.hown q hq).1
        rcases List.mem_cons.1 hq with rfl | hq'
        · refine ⟨hA.hz, by simp; omega, hA.hs, by simp; omega, fun _ => ?_⟩
          obtain ⟨cq, tq, fq, k1, k2, k3, k4, k5⟩ := hA.hv
          refine ⟨cq, tq, fq, (hold q.b hlt).trans k1, k2, k3, k4, ?_⟩
          have e1 : told q (xs ++ ys) = told q xs := by
            simp only [told]
            rw [List.take_append_of_le_length (by omega)]
          rw [e1]
          exact k5.mono fun _ _ => VA.mono hle.toLe
        · obtain ⟨h1, h2, h3, h4, h5⟩ := hA.hrest q hq'
          refine ⟨h1, by simp; omega, h3, by simp; omega, fun hs => ?_⟩
          have hs2 : st ≠ 2 := fun e2 => by simp [e2] at hs
          obtain ⟨cq, tq, fq, k1, k2, k3, k4, k5⟩ := h5 hs2
          refine ⟨cq, tq, fq, (hold q.b hlt).trans k1, k2, k3, k4, ?_⟩
          have e1 : told q (xs ++ ys) = told q xs := by
            simp only [told]
            rw [List.take_append_of_le_length (by omega)]
          rw [e1]
          exact k5.mono fun _ _ => VA.mono hle.toLe
      · rw [flat_append] at hx
        rcases List.mem_append.1 hx with hx | hx
        · exact (hA.hcl x hx).imp fun _ => VA.mono hle.toLe
        · exact (hxs.ex x (by rw [flat_append]; exact List.mem_append_right _ hx)).imp fun _ => VA.mono hle.toLe
    · simp only [AH.set, if_neg e]
      refine (h.rep i hi).of hle.toLe (by simp [Rn.moveP, e]) (by omega) fun b hb hn => ⟨?_, hold b hb⟩
      simp only [Rn.moveP]
      rw [if_neg (by omega)]
  · have hi' : H.n ≤ i := hi
    have hne : i ≠ id := by omega
    simp only [Rn.moveP, if_neg hne]
    exact h.fr i hi'
  · simp only [Rn.moveP]
    rw [if_neg (show ¬ b = w.heap.size by omega)]
    exact h.bnd b (by omega)
  · simp only [Rn.moveP] at hi
    by_cases e : b = w.heap.size
    · simp only [e, if_pos] at hi
      cases hi
      exact hid
    · rw [if_neg e] at hi
      exact h.ids b i hi

/-- A map's entries turned. -/
theorem HeapR.setMap {ρ : Rn} {H : AH} {w w' : World} (h : HeapR ρ H w) {id b : Nat} {es : List (AV × AV)} {ents : Array MapEntry} {clk : Nat}
    (hid : id < H.n) (hb : ρ.ob id = some b) (ho : ρ.own b = .id id)
    (hw : w'.heap[b]? = some (.map ents clk)) (hold : ∀ b', b' ≠ b → w'.heap[b']? = w.heap[b']?) (hsz : w'.heap.size = w.heap.size) (hes : All2 (EntR ρ) es ents.toList) :
    HeapR ρ (H.set id (.map true es)) w' := by
  refine ⟨fun i hi => ?_, h.fr, fun b hb => h.bnd b (by omega), h.ids⟩
  by_cases e : i = id
  · subst e
    simp only [AH.set, if_pos]
    exact ⟨b, hb, ho, ents, clk, hw, hes⟩
  · simp only [AH.set, if_neg e]
    refine (h.rep i hi).of (.refl ρ) rfl (by omega) fun b' hb' hn => ⟨rfl, hold b' fun eb => ?_⟩
    rw [eb, ho] at hn
    simp at hn
    exact e hn.symm
end Go.Vm
