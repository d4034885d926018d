/- What a function leaves behind: new objects under other names, and what nobody holds any more let go. -/
import Derived.Test.YtfamnghjibckbaaVm16
namespace Go.Vm
set_option linter.unusedVariables false
set_option linter.unusedSimpArgs false
def renP (φ : Nat → Nat) : AV → AV
  | .pv id off => .pv (φ id) off
  | .pe id ix off ext => .pe (φ id) ix off ext
  | .sl id ix len => .sl (φ id) ix len
  | .mp id => .mp (φ id)
  | a => a
def renA (φ : Nat → Nat) : AV → AV
  | .fn f caps => .fn f (caps.map (renP φ))
  | a => renP φ a
def ren1 (φ : Nat → Nat) : AV → AV
  | .ag xs => .ag (xs.map (renA φ))
  | a => renA φ a
def ren2 (φ : Nat → Nat) : AV → AV
  | .tp xs => .tp (xs.map (ren1 φ))
  | a => ren1 φ a
def renO (φ : Nat → Nat) : Ob → Ob
  | .no => .no
  | .arr rw st z xs => .arr rw st z (xs.map (ren1 φ))
  | .map rw es => .map rw (es.map fun e => (ren1 φ e.1, ren1 φ e.2))
/-- The function found H, left H1 and gave v1; told is that it gave v and left H'. -/
structure Rpk (H H1 : AH) (v1 v : AV) (H' : AH) (φ : Nat → Nat) : Prop where
  old : ∀ i, i < H.n → φ i = i
  inj : ∀ i j, i < H'.n → j < H'.n → φ i = φ j → i = j
  lt : ∀ i, i < H'.n → φ i < H1.n
  ge : ∀ i, H'.n ≤ i → H1.n ≤ φ i
  le : H.n ≤ H'.n
  obs : ∀ i, i < H'.n → (i < H.n ∧ H'.at' i = H.at' i ∧ H1.at' i = H.at' i) ∨ H1.at' (φ i) = renO φ (H'.at' i)
  val : v1 = ren2 φ v
section
variable {ρ : Rn} {φ : Nat → Nat}
theorem All2.map {α β γ : Type} {R : α → β → Prop} {f : γ → α} : ∀ {l : List γ} {m : List β}, All2 R (l.map f) m ↔ All2 (fun x y => R (f x) y) l m
  | [], [] => Iff.rfl
  | x :: l, y :: m => by simp only [List.map_cons, All2]; exact and_congr Iff.rfl All2.map
  | [], _ :: _ => Iff.rfl
  | _ :: _, [] => Iff.rfl
theorem All2.imp_mem {α β : Type} {R Q : α → β → Prop} : ∀ {l : List α} {m : List β}, (∀ x y, x ∈ l → R x y → Q x y) → All2 R l m → All2 Q l m
  | [], [], _, _ => trivial
  | x :: l, y :: m, h, hr => ⟨h x y (by simp) hr.1, All2.imp_mem (fun a b ha => h a b (by simp [ha])) hr.2⟩
  | [], _ :: _, _, h => h.elim
  | _ :: _, [], _, h => h.elim
theorem VA_P {a : AV} {v : Value} (h : ∀ f c, a ≠ .fn f c) : VA ρ a v = VP ρ a v ∧ renA φ a = renP φ a := by
  cases a <;> first | exact ⟨rfl, rfl⟩ | exact absurd rfl (h _ _)
theorem V1_A {a : AV} {v : Value} (h : ∀ xs, a ≠ .ag xs) : V1 ρ a v = VA ρ a v ∧ ren1 φ a = renA φ a := by
  cases a <;> first | exact ⟨rfl, rfl⟩ | exact absurd rfl (h _)
theorem V2_1 {a : AV} {v : Value} (h : ∀ xs, a ≠ .tp xs) : V2 ρ a v = V1 ρ a v ∧ ren2 φ a = ren1 φ a := by
  cases a <;> first | exact ⟨rfl, rfl⟩ | exact absurd rfl (h _)
theorem renP_fn {a : AV} {f : FuncId} {c : List AV} (h : renP φ a = .fn f c) : a = .fn f c := by
  cases a <;> first | exact h | cases h
theorem renA_ag {a : AV} {xs : List AV} (h : renA φ a = .ag xs) : a = .ag xs := by
  cases a <;> first | exact h | cases h
theorem ren1_tp {a : AV} {xs : List AV} (h : ren1 φ a = .tp xs) : a = .tp xs := by
  cases a <;> first | exact h | cases h
theorem ren1_cells (a : AV) : (ren1 φ a).cells = a.cells.map (renA φ) := by
  cases a <;> rfl
theorem flat_ren : ∀ l : List AV, flat (l.map (ren1 φ)) = (flat l).map (renA φ)
  | [] => rfl
  | x :: r => by simp [flat, ren1_cells, flat_ren r]
/-- An old value keeps its name. -/
theorem renP_old {n : Nat} (hf : ∀ i, n ≤ i → ρ.pl i = [] ∧ ρ.ob i = none) (ho : ∀ i, i < n → φ i = i) {a : AV} {v : Value} (h : VP ρ a v) : renP φ a = a := by
  have key : ∀ id p, p ∈ ρ.pl id → φ id = id := fun id p hp => by
    rcases Nat.lt_or_ge id n with h | h
    · exact ho id h
    · rw [(hf id h).1] at hp; cases hp
  cases a <;> try rfl
  case pv id off => obtain ⟨p, hp, -⟩ := h; simp only [renP, key id p hp]
  case pe id ix off ext => obtain ⟨p, hp, -⟩ := h; simp only [renP, key id p hp]
  case sl id ix len => obtain ⟨p, hp, -⟩ := h; simp only [renP, key id p hp]
  case mp id =>
    obtain ⟨b, hb, -⟩ := h
    simp only [renP]
    rcases Nat.lt_or_ge id n with h | h
    · rw [ho id h]
    · rw [(hf id h).2] at hb; cases hb
theorem map_old {R : AV → Value → Prop} {f : AV → AV} (h : ∀ x v, R x v → f x = x) : ∀ {l : List AV} {m : List Value}, All2 R l m → l.map f = l
  | [], [], _ => rfl
  | x :: l, y :: m, hr => by rw [List.map_cons, h x y hr.1, map_old h hr.2]
  | [], _ :: _, h => h.elim
  | _ :: _, [], h => h.elim
theorem renA_old {n : Nat} (hf : ∀ i, n ≤ i → ρ.pl i = [] ∧ ρ.ob i = none) (ho : ∀ i, i < n → φ i = i) {a : AV} {v : Value} (h : VA ρ a v) : renA φ a = a := by
  by_cases hn : ∃ f c, a = .fn f c
  · obtain ⟨f, caps, rfl⟩ := hn
    obtain ⟨rc, -, hc⟩ := h
    simp only [renA, map_old (fun x v hx => renP_old hf ho hx) hc]
  · have hn' : ∀ f c, a ≠ .fn f c := fun f c e => hn ⟨f, c, e⟩
    rw [(VA_P (φ := φ) hn').1] at h
    rw [(VA_P (ρ := ρ) (v := v) hn').2]
    exact renP_old hf ho h
theorem ren1_old {n : Nat} (hf : ∀ i, n ≤ i → ρ.pl i = [] ∧ ρ.ob i = none) (ho : ∀ i, i < n → φ i = i) {a : AV} {v : Value} (h : V1 ρ a v) : ren1 φ a = a := by
  by_cases hn : ∃ xs, a = .ag xs
  · obtain ⟨xs, rfl⟩ := hn
    obtain ⟨ys, -, hc⟩ := h
    simp only [ren1, map_old (fun x v hx => renA_old hf ho hx) hc]
  · have hn' : ∀ xs, a ≠ .ag xs := fun xs e => hn ⟨xs, e⟩
    rw [(V1_A (φ := φ) hn').1] at h
    rw [(V1_A (ρ := ρ) (v := v) hn').2]
    exact renA_old hf ho h
theorem ren1_of_flat : ∀ {xs : List AV}, (∀ x, x ∈ flat xs → renA φ x = x) → xs.map (ren1 φ) = xs
  | [], _ => rfl
  | a :: r, h => by
    rw [List.map_cons, ren1_of_flat fun x hx => h x (by simp [flat, hx])]
    congr 1
    have hc : ∀ x, x ∈ a.cells → renA φ x = x := fun x hx => h x (by simp [flat, hx])
    by_cases hn : ∃ ys, a = .ag ys
    · obtain ⟨ys, rfl⟩ := hn
      have hm : ys.map (renA φ) = ys := by
        have hc' : ∀ x, x ∈ ys → renA φ x = x := hc
        clear h hc
        induction ys with
        | nil => rfl
        | cons x l ih => rw [List.map_cons, hc' x (by simp), ih fun y hy => hc' y (by simp [hy])]
      simp only [ren1, hm]
    · have hn' : ∀ ys, a ≠ .ag ys := fun ys e => hn ⟨ys, e⟩
      rw [(V1_A (ρ := ⟨fun _ => [], fun _ => none, fun _ => .no, fun _ _ => none⟩) (v := undef) hn').2]
      exact hc a (by cases a <;> first | exact absurd rfl (hn' _) | simp [AV.cells])
/-- An old object that is as it was needs no new name. -/
theorem renO_old {n : Nat} {w : World} {id : Nat} (hf : ∀ i, n ≤ i → ρ.pl i = [] ∧ ρ.ob i = none) (ho : ∀ i, i < n → φ i = i) {o : Ob} (h : RepAt ρ w id o) : renO φ o = o := by
  cases o with
  | no => rfl
  | arr rw st z xs =>
    obtain ⟨-, p, rest, hA⟩ := h
    simp only [renO]
    rw [ren1_of_flat fun x hx => ?_]
    obtain ⟨v, hv⟩ := hA.hcl x hx
    exact renA_old hf ho hv
  | map rw es =>
    obtain ⟨b, -, -, ents, clk, -, he⟩ := h
    simp only [renO]
    congr 1
    have : ∀ {l : List (AV × AV)} {m : List MapEntry}, All2 (EntR ρ) l m → l.map (fun e => (ren1 φ e.1, ren1 φ e.2)) = l := by
      intro l
      induction l with
      | nil => intro m _; rfl
      | cons x l ih =>
        intro m hm
        cases m with
        | nil => exact hm.elim
        | cons y m => rw [List.map_cons, ih hm.2, ren1_old hf ho hm.1.1, ren1_old hf ho hm.1.2]
    exact this he

/-- The names that are kept. -/
def inv (φ : Nat → Nat) (n : Nat) (j : Nat) : Option Nat := (List.range n).find? fun i => φ i == j
theorem inv_some {n i : Nat} (hi : i < n) (hinj : ∀ i j, i < n → j < n → φ i = φ j → i = j) : inv φ n (φ i) = some i := by
  unfold inv
  cases h : (List.range n).find? fun k => φ k == φ i with
  | none =>
    have := List.find?_eq_none.1 h i (List.mem_range.2 hi)
    simp at this
  | some k =>
    have h1 := List.find?_some h
    have h2 := List.mem_range.1 (List.mem_of_find?_eq_some h)
    rw [hinj k i h2 hi (by simpa using h1)]
theorem inv_lt {n i j : Nat} (h : inv φ n j = some i) : i < n ∧ φ i = j := by
  have h1 := List.find?_some h
  exact ⟨List.mem_range.1 (List.mem_of_find?_eq_some h), by simpa using h1⟩
def Rn.pack (ρ : Rn) (φ : Nat → Nat) (n : Nat) : Rn :=
  { pl := fun i => if i < n then ρ.pl (φ i) else []
    ob := fun i => if i < n then ρ.ob (φ i) else none
    own := fun b => match ρ.own b with
      | .id j => (match inv φ n j with
        | some i => .id i
        | none => .no)
      | o => o
    lo := ρ.lo }
theorem VP.pack {n n1 : Nat} (hge : ∀ i, n ≤ i → n1 ≤ φ i) (hf : ∀ i, n1 ≤ i → ρ.pl i = [] ∧ ρ.ob i = none) {a : AV} {v : Value} (h : VP ρ (renP φ a) v) : VP (ρ.pack φ n) a v := by
  have key : ∀ id p, p ∈ ρ.pl (φ id) → p ∈ (ρ.pack φ n).pl id := fun id p hp => by
    simp only [Rn.pack]
    by_cases hi : id < n
    · rwa [if_pos hi]
    · rw [(hf _ (hge id (by omega))).1] at hp; cases hp
  cases a <;> try exact h
  case pv id off => obtain ⟨p, hp, hr⟩ := h; exact ⟨p, key id p hp, hr⟩
  case pe id ix off ext => obtain ⟨p, hp, hr⟩ := h; exact ⟨p, key id p hp, hr⟩
  case sl id ix len => obtain ⟨p, hp, hr⟩ := h; exact ⟨p, key id p hp, hr⟩
  case mp id =>
    obtain ⟨b, hb, hr⟩ := h
    refine ⟨b, ?_, hr⟩
    simp only [Rn.pack]
    by_cases hi : id < n
    · rwa [if_pos hi]
    · rw [(hf _ (hge id (by omega))).2] at hb; cases hb
theorem VA.pack {n n1 : Nat} (hge : ∀ i, n ≤ i → n1 ≤ φ i) (hf : ∀ i, n1 ≤ i → ρ.pl i = [] ∧ ρ.ob i = none) {a : AV} {v : Value} (h : VA ρ (renA φ a) v) : VA (ρ.pack φ n) a v := by
  by_cases hn : ∃ f c, a = .fn f c
  · obtain ⟨f, caps, rfl⟩ := hn
    obtain ⟨rc, e, hc⟩ := h
    exact ⟨rc, e, (All2.map.1 hc).mono fun _ _ => VP.pack hge hf⟩
  · have hn' : ∀ f c, a ≠ .fn f c := fun f c e => hn ⟨f, c, e⟩
    rw [(VA_P (ρ := ρ) (v := v) hn').2, (VA_P (φ := φ) fun f c e => hn' f c (renP_fn e)).1] at h
    exact VA.of (VP.pack hge hf h)
theorem V1.pack {n n1 : Nat} (hge : ∀ i, n ≤ i → n1 ≤ φ i) (hf : ∀ i, n1 ≤ i → ρ.pl i = [] ∧ ρ.ob i = none) {a : AV} {v : Value} (h : V1 ρ (ren1 φ a) v) : V1 (ρ.pack φ n) a v := by
  by_cases hn : ∃ xs, a = .ag xs
  · obtain ⟨xs, rfl⟩ := hn
    obtain ⟨ys, e, hc⟩ := h
    exact ⟨ys, e, (All2.map.1 hc).mono fun _ _ => VA.pack hge hf⟩
  · have hn' : ∀ xs, a ≠ .ag xs := fun xs e => hn ⟨xs, e⟩
    rw [(V1_A (ρ := ρ) (v := v) hn').2, (V1_A (φ := φ) fun xs e => hn' xs (renA_ag e)).1] at h
    exact V1.of (VA.pack hge hf h)
theorem V2.pack {n n1 : Nat} (hge : ∀ i, n ≤ i → n1 ≤ φ i) (hf : ∀ i, n1 ≤ i → ρ.pl i = [] ∧ ρ.ob i = none) {a : AV} {v : Value} (h : V2 ρ (ren2 φ a) v) : V2 (ρ.pack φ n) a v := by
  by_cases hn : ∃ xs, a = .tp xs
  · obtain ⟨xs, rfl⟩ := hn
    obtain ⟨ys, e, hc⟩ := h
    exact ⟨ys, e, (All2.map.1 hc).mono fun _ _ => V1.pack hge hf⟩
  · have hn' : ∀ xs, a ≠ .tp xs := fun xs e => hn ⟨xs, e⟩
    rw [(V2_1 (ρ := ρ) (v := v) hn').2, (V2_1 (φ := φ) fun xs e => hn' xs (ren1_tp e)).1] at h
    exact V2.of (V1.pack hge hf h)
theorem RepAt.pack {n n1 : Nat} {w : World} (hge : ∀ i, n ≤ i → n1 ≤ φ i) (hf : ∀ i, n1 ≤ i → ρ.pl i = [] ∧ ρ.ob i = none) (hinj : ∀ i j, i < n → j < n → φ i = φ j → i = j) {i : Nat} (hi : i < n) {o : Ob} (h : RepAt ρ w (φ i) (renO φ o)) : RepAt (ρ.pack φ n) w i o := by
  have hown : ∀ b rw, ρ.own b = ownOf rw (φ i) → (ρ.pack φ n).own b = ownOf rw i := fun b rw hb => by
    simp only [Rn.pack, hb]
    cases rw with
    | false => rfl
    | true => simp only [ownOf, if_true, inv_some hi hinj]
  cases o with
  | no => trivial
  | arr rw st z xs =>
    obtain ⟨hz, p, rest, hA⟩ := h
    have hlen : (xs.map (ren1 φ)).length = xs.length := List.length_map _
    have hval : ∀ q, Valid ρ w q (xs.map (ren1 φ)) rw → Valid (ρ.pack φ n) w q xs rw := fun q ⟨c, ty, fz, k1, k2, k3, k4, k5⟩ => by
      refine ⟨c, ty, fz, k1, k2, k3, k4, ?_⟩
      have e : told q (xs.map (ren1 φ)) = (told q xs).map (ren1 φ) := by simp [told, List.map_take, List.map_drop]
      rw [e, flat_ren] at k5
      exact (All2.map.1 k5).mono fun _ _ => VA.pack hge hf
    refine ⟨fun x hx => ?_, p, rest, ?_, by rw [hA.hx, hlen], hA.hs, hA.hz, hval p hA.hv, fun q hq => ⟨(hA.hown q hq).1, hown _ _ (hA.hown q hq).2⟩, hA.hst0, fun q hq => ?_, fun x hx => ?_⟩
    · have := hz (ren1 φ x) (List.mem_map_of_mem hx)
      rwa [ren1_cells, List.length_map] at this
    · simp only [Rn.pack, if_pos hi]; exact hA.hpl
    · obtain ⟨h1, h2, h3, h4, h5⟩ := hA.hrest q hq
      exact ⟨h1, by rw [← hlen]; exact h2, h3, h4, fun hs => hval q (h5 hs)⟩
    · obtain ⟨v, hv⟩ := hA.hcl (renA φ x) (by rw [flat_ren]; exact List.mem_map_of_mem hx)
      exact ⟨v, VA.pack hge hf hv⟩
  | map rw es =>
    obtain ⟨b, h1, h2, ents, clk, h3, h4⟩ := h
    refine ⟨b, ?_, hown _ _ h2, ents, clk, h3, ?_⟩
    · simp only [Rn.pack, if_pos hi]; exact h1
    · exact (All2.map.1 h4).mono fun _ _ hx => ⟨V1.pack hge hf hx.1, V1.pack hge hf hx.2⟩
/-- The step of a call, told in the names that are kept. -/
theorem Rpk.back {H H1 H' : AH} {v1 v : AV} {ρ' : Rn} {w w' : World} {r : Value} (R : Rpk H H1 v1 v H' φ) (hH : HeapR ρ H w) (hs : Stp ρ w ρ' w') (hv : V2 ρ' v1 r) (h1 : HeapR ρ' H1 w') :
    ∃ ρ'', Stp ρ w ρ'' w' ∧ V2 ρ'' v r ∧ HeapR ρ'' H' w' := by
  refine ⟨ρ'.pack φ H'.n, ⟨⟨fun id p hp => ?_, fun id b hb => ?_⟩, fun b hb => ?_, hs.frame, hs.sz, hs.os, hs.tape, hs.out⟩, ?_, ?_⟩
  · have hid : id < H.n := by
      rcases Nat.lt_or_ge id H.n with h | h
      · exact h
      · rw [(hH.fr id h).1] at hp; cases hp
    have := R.le
    obtain ⟨p', h2, h3⟩ := hs.le.pl id p hp
    refine ⟨p', ?_, h3⟩
    simp only [Rn.pack]
    rw [if_pos (by omega), R.old id hid]; exact h2
  · have hid : id < H.n := by
      rcases Nat.lt_or_ge id H.n with h | h
      · exact h
      · rw [(hH.fr id h).2] at hb; cases hb
    have := R.le
    simp only [Rn.pack]
    rw [if_pos (by omega), R.old id hid]; exact hs.le.ob id b hb
  · have ho := hs.own b hb
    simp only [Rn.pack, ho]
    cases hb' : ρ.own b with
    | no => rfl
    | loc => rfl
    | id j =>
      have hj := hH.ids b j hb'
      have := R.le
      have := inv_some (φ := φ) (n := H'.n) (i := j) (by omega) R.inj
      rw [R.old j hj] at this
      simp only [this]
  · rw [R.val] at hv
    exact hv.pack R.ge h1.fr
  · refine ⟨fun i hi => ?_, fun i hi => ?_, fun b hb => ?_, fun b i hb => ?_⟩
    · have hrep := h1.rep (φ i) (R.lt i hi)
      refine RepAt.pack R.ge h1.fr R.inj hi ?_
      rcases R.obs i hi with ⟨k1, k2, k3⟩ | k
      · rw [R.old i k1, k3] at hrep
        rw [R.old i k1, k2, renO_old hH.fr R.old (hH.rep i k1)]
        exact hrep
      · rw [← k]; exact hrep
    · simp only [Rn.pack]
      rw [if_neg (by omega), if_neg (by omega)]
      exact ⟨rfl, rfl⟩
    · simp only [Rn.pack, h1.bnd b hb]
    · simp only [Rn.pack] at hb
      cases hb' : ρ'.own b with
      | no => rw [hb'] at hb; cases hb
      | loc => rw [hb'] at hb; cases hb
      | id j =>
        rw [hb'] at hb
        simp only at hb
        cases hin : inv φ H'.n j with
        | none => rw [hin] at hb; cases hb
        | some k =>
          rw [hin] at hb
          cases hb
          exact (inv_lt hin).1
end
/-- What is told of a function's end. -/
def Fits (H H1 : AH) (v1 v : AV) (H' : AH) : Prop := (v1 = v ∧ H1 = H') ∨ ∃ φ, Rpk H H1 v1 v H' φ
theorem Fits.back {ρ ρ' : Rn} {H H1 H' : AH} {v1 v : AV} {w w' : World} {r : Value} (R : Fits H H1 v1 v H') (hH : HeapR ρ H w) (hs : Stp ρ w ρ' w') (hv : V2 ρ' v1 r) (h1 : HeapR ρ' H1 w') :
    ∃ ρ'', Stp ρ w ρ'' w' ∧ V2 ρ'' v r ∧ HeapR ρ'' H' w' := by
  rcases R with ⟨rfl, rfl⟩ | ⟨φ, R⟩
  · exact ⟨ρ', hs, hv, h1⟩
  · exact R.back hH hs hv h1
end Go.Vm
