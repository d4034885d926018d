/- How abstract values and memory stand for Go's: the relations, and that they are kept. -/
import Derived.Test.YtfamnghjibckbaaVm1
namespace Go.Vm
set_option linter.unusedVariables false
set_option linter.unusedSimpArgs false

def All2 {α β : Type} (R : α → β → Prop) : List α → List β → Prop
  | [], [] => True
  | x :: r, y :: q => R x y ∧ All2 R r q
  | _, _ => False
section
variable {α β : Type} {R Q : α → β → Prop}
theorem All2.len : ∀ {l : List α} {m : List β}, All2 R l m → l.length = m.length
  | [], [], _ => rfl
  | _ :: _, _ :: _, h => by simp [All2.len h.2]
  | [], _ :: _, h => h.elim
  | _ :: _, [], h => h.elim
theorem All2.mono (hR : ∀ x y, R x y → Q x y) : ∀ {l : List α} {m : List β}, All2 R l m → All2 Q l m
  | [], [], _ => trivial
  | _ :: _, _ :: _, h => ⟨hR _ _ h.1, All2.mono hR h.2⟩
  | [], _ :: _, h => h.elim
  | _ :: _, [], h => h.elim
theorem All2.append : ∀ {l : List α} {m : List β} {l' : List α} {m' : List β}, All2 R l m → All2 R l' m' → All2 R (l ++ l') (m ++ m')
  | [], [], _, _, _, h' => h'
  | _ :: _, _ :: _, _, _, h, h' => ⟨h.1, All2.append h.2 h'⟩
  | [], _ :: _, _, _, h, _ => h.elim
  | _ :: _, [], _, _, h, _ => h.elim
theorem All2.take : ∀ (n : Nat) {l : List α} {m : List β}, All2 R l m → All2 R (l.take n) (m.take n)
  | 0, _, _, _ => by simp [All2]
  | _ + 1, [], [], _ => trivial
  | n + 1, _ :: _, _ :: _, h => ⟨h.1, All2.take n h.2⟩
  | _ + 1, [], _ :: _, h => h.elim
  | _ + 1, _ :: _, [], h => h.elim
theorem All2.drop : ∀ (n : Nat) {l : List α} {m : List β}, All2 R l m → All2 R (l.drop n) (m.drop n)
  | 0, _, _, h => h
  | _ + 1, [], [], _ => trivial
  | n + 1, _ :: _, _ :: _, h => All2.drop n h.2
  | _ + 1, [], _ :: _, h => h.elim
  | _ + 1, _ :: _, [], h => h.elim
theorem All2.get : ∀ {l : List α} {m : List β}, All2 R l m → ∀ (i : Nat) (x : α), l[i]? = some x → ∃ y, m[i]? = some y ∧ R x y
  | [], [], _, i, x, hx => by simp at hx
  | a :: _, b :: _, h, 0, x, hx => ⟨b, rfl, (show a = x by simpa using hx) ▸ h.1⟩
  | _ :: _, _ :: _, h, i + 1, x, hx => All2.get h.2 i x (by simpa using hx)
  | [], _ :: _, h, _, _, _ => h.elim
  | _ :: _, [], h, _, _, _ => h.elim
theorem All2.ex : ∀ {l : List α} {m : List β}, All2 R l m → ∀ x, x ∈ l → ∃ y, R x y
  | a :: l, b :: m, h, x, hx => (List.mem_cons.1 hx).elim (fun e => ⟨b, e ▸ h.1⟩) (All2.ex h.2 x)
  | [], [], _, _, hx => by cases hx
  | [], _ :: _, h, _, _ => h.elim
  | _ :: _, [], h, _, _ => h.elim
theorem All2.of_get : ∀ {l : List α} {m : List β}, l.length = m.length → (∀ (i : Nat) (x : α) (y : β), l[i]? = some x → m[i]? = some y → R x y) → All2 R l m
  | [], [], _, _ => trivial
  | a :: l, b :: m, hl, h => ⟨h 0 a b rfl rfl, All2.of_get (by simpa using hl) fun i x y hx hy => h (i + 1) x y (by simpa using hx) (by simpa using hy)⟩
  | [], _ :: _, hl, _ => by simp at hl
  | _ :: _, [], hl, _ => by simp at hl
theorem All2.replicate {x : α} {y : β} (h : R x y) : ∀ n, All2 R (List.replicate n x) (List.replicate n y)
  | 0 => trivial
  | n + 1 => ⟨h, All2.replicate h n⟩
end

inductive Own where
  | no
  | id (n : Nat)
  | loc
/-- A place of an abstract row: block b, from cell o on, z cells an element, the elements from s up to x; the block has c cells. -/
structure Pl where
  b : Nat
  o : Nat
  z : Nat
  s : Nat
  x : Nat
  c : Nat
structure Rn where
  pl : Nat → List Pl
  ob : Nat → Option Nat
  own : Nat → Own
  lo : Nat → Nat → Option (Nat × Nat)

def VP (ρ : Rn) (a : AV) (v : Value) : Prop :=
  match a with
  | .b x => v = .bool x
  | .i k n => v = .int k n
  | .s l => v = .string ⟨l.toArray⟩
  | .np => v = .pointer none
  | .pv id off => ∃ p, p ∈ ρ.pl id ∧ p.s = 0 ∧ v = .pointer (some ⟨p.b, p.o + off, none⟩)
  | .pe id ix off ext => ∃ p, p ∈ ρ.pl id ∧ p.s ≤ ix ∧ ix < ext ∧ ext ≤ p.x ∧ v = .pointer (some ⟨p.b, p.o + (ix - p.s) * p.z + off, none⟩)
  | .ns => v = .slice none 0 0
  | .sl id ix len => ∃ p, p ∈ ρ.pl id ∧ p.s ≤ ix ∧ ix + len ≤ p.x ∧ ∃ off cap, len ≤ cap ∧ (off = p.o + (ix - p.s) * p.z ∨ (len = 0 ∧ cap = 0)) ∧ (cap = 0 ∨ off + cap * p.z ≤ p.c) ∧ v = .slice (some ⟨p.b, off, none⟩) len cap
  | .nm => v = .map none
  | .mp id => ∃ b, ρ.ob id = some b ∧ v = .map (some b)
  | .nf => v = .nilFunc
  | .ni => v = .nilIface
  | _ => False
def VA (ρ : Rn) (a : AV) (v : Value) : Prop :=
  match a with
  | .fn f caps => ∃ rc : Array Value, v = .func (.func f) #[] rc ∧ All2 (VP ρ) caps rc.toList
  | a => VP ρ a v
def V1 (ρ : Rn) (a : AV) (v : Value) : Prop :=
  match a with
  | .ag xs => ∃ ys : Array Value, v = .agg ys ∧ All2 (VA ρ) xs ys.toList
  | a => VA ρ a v
def V2 (ρ : Rn) (a : AV) (v : Value) : Prop :=
  match a with
  | .tp xs => ∃ ys : Array Value, v = .tuple ys ∧ All2 (V1 ρ) xs ys.toList
  | a => V1 ρ a v
def VE (ρ : Rn) (a : AV) (v : Value) : Prop :=
  match a with
  | .u => True
  | .la t g ix off => ∃ b z, ρ.lo t g = some (b, z) ∧ v = .pointer (some ⟨b, ix * z + off, none⟩)
  | .ll t g z len => ∃ b, ρ.lo t g = some (b, z) ∧ v = .slice (some ⟨b, 0, none⟩) len len
  | .li t g => ∃ b z, ρ.lo t g = some (b, z) ∧ v = .pointer (some ⟨b, 0, none⟩)
  | a => V2 ρ a v

structure Rn.Le (ρ ρ' : Rn) : Prop where
  pl : ∀ id p, p ∈ ρ.pl id → ∃ p', p' ∈ ρ'.pl id ∧ p'.b = p.b ∧ p'.o = p.o ∧ p'.z = p.z ∧ p'.s = p.s ∧ p'.c = p.c ∧ p.x ≤ p'.x
  ob : ∀ id b, ρ.ob id = some b → ρ'.ob id = some b
/-- Of a frame's own variables, too. -/
structure Rn.LeL (ρ ρ' : Rn) : Prop extends Rn.Le ρ ρ' where
  lo : ∀ t g x, ρ.lo t g = some x → ρ'.lo t g = some x
theorem Rn.Le.refl (ρ : Rn) : ρ.Le ρ := ⟨fun _ p h => ⟨p, h, rfl, rfl, rfl, rfl, rfl, Nat.le_refl _⟩, fun _ _ h => h⟩
theorem Rn.LeL.refl (ρ : Rn) : ρ.LeL ρ := ⟨.refl ρ, fun _ _ _ h => h⟩
theorem Rn.Le.trans {a b c : Rn} (h : a.Le b) (k : b.Le c) : a.Le c :=
  ⟨fun id p hp => by
    obtain ⟨p', h1, h2, h3, h4, h5, h6, h7⟩ := h.pl id p hp
    obtain ⟨p'', k1, k2, k3, k4, k5, k6, k7⟩ := k.pl id p' h1
    exact ⟨p'', k1, k2.trans h2, k3.trans h3, k4.trans h4, k5.trans h5, k6.trans h6, Nat.le_trans h7 k7⟩,
   fun id b hb => k.ob id b (h.ob id b hb)⟩
theorem Rn.LeL.trans {a b c : Rn} (h : a.LeL b) (k : b.LeL c) : a.LeL c := ⟨h.toLe.trans k.toLe, fun t g x hx => k.lo t g x (h.lo t g x hx)⟩

theorem VP.mono {ρ ρ' : Rn} (h : ρ.Le ρ') {a : AV} {v : Value} (hv : VP ρ a v) : VP ρ' a v := by
  cases a <;> try exact hv
  case pv id off =>
    obtain ⟨p, h1, h2, h3⟩ := hv
    obtain ⟨p', k1, k2, k3, k4, k5, k6, k7⟩ := h.pl id p h1
    exact ⟨p', k1, k5.trans h2, by rw [k2, k3]; exact h3⟩
  case pe id ix off ext =>
    obtain ⟨p, h1, h2, h3, h4, h5⟩ := hv
    obtain ⟨p', k1, k2, k3, k4, k5, k6, k7⟩ := h.pl id p h1
    exact ⟨p', k1, by omega, h3, by omega, by rw [k2, k3, k4, k5]; exact h5⟩
  case sl id ix len =>
    obtain ⟨p, h1, h2, h3, off, cap, h4, h5, h6, h7⟩ := hv
    obtain ⟨p', k1, k2, k3, k4, k5, k6, k7⟩ := h.pl id p h1
    exact ⟨p', k1, by omega, by omega, off, cap, h4, by rw [k3, k4, k5]; exact h5, by rw [k4, k6]; exact h6, by rw [k2]; exact h7⟩
  case mp id =>
    obtain ⟨b, hb, e⟩ := hv
    exact ⟨b, h.ob id b hb, e⟩
theorem VA.mono {ρ ρ' : Rn} (h : ρ.Le ρ') {a : AV} {v : Value} (hv : VA ρ a v) : VA ρ' a v := by
  cases a
  case fn f caps =>
    obtain ⟨rc, e, hc⟩ := hv
    exact ⟨rc, e, hc.mono fun _ _ => VP.mono h⟩
  all_goals (simp only [VA] at hv ⊢; exact VP.mono h hv)
theorem V1.mono {ρ ρ' : Rn} (h : ρ.Le ρ') {a : AV} {v : Value} (hv : V1 ρ a v) : V1 ρ' a v := by
  cases a
  case ag xs =>
    obtain ⟨ys, e, hc⟩ := hv
    exact ⟨ys, e, hc.mono fun _ _ => VA.mono h⟩
  all_goals (simp only [V1] at hv ⊢; exact VA.mono h hv)
theorem V2.mono {ρ ρ' : Rn} (h : ρ.Le ρ') {a : AV} {v : Value} (hv : V2 ρ a v) : V2 ρ' a v := by
  cases a
  case tp xs =>
    obtain ⟨ys, e, hc⟩ := hv
    exact ⟨ys, e, hc.mono fun _ _ => V1.mono h⟩
  all_goals (simp only [V2] at hv ⊢; exact V1.mono h hv)
theorem VE.mono {ρ ρ' : Rn} (h : ρ.LeL ρ') {a : AV} {v : Value} (hv : VE ρ a v) : VE ρ' a v := by
  cases a
  case u => trivial
  case la t g ix off => obtain ⟨b, z, hl, e⟩ := hv; exact ⟨b, z, h.lo _ _ _ hl, e⟩
  case ll t g z len => obtain ⟨b, hl, e⟩ := hv; exact ⟨b, h.lo _ _ _ hl, e⟩
  case li t g => obtain ⟨b, z, hl, e⟩ := hv; exact ⟨b, z, h.lo _ _ _ hl, e⟩
  all_goals (simp only [VE] at hv ⊢; exact V2.mono h.toLe hv)

/-- What is handed over or stored is no own variable's address. -/
theorem VE.out {ρ : Rn} {a : AV} {v : Value} (h : VE ρ a v) (ho : a.outs = true) : V1 ρ a v := by
  cases a <;> first | exact h | simp [AV.outs] at ho
theorem VE.of {ρ : Rn} {a : AV} {v : Value} (h : V2 ρ a v) : VE ρ a v := by
  cases a <;> first | exact h | exact trivial | exact h.elim
theorem V2.of {ρ : Rn} {a : AV} {v : Value} (h : V1 ρ a v) : V2 ρ a v := by
  cases a <;> first | exact h | exact h.elim
theorem V1.of {ρ : Rn} {a : AV} {v : Value} (h : VA ρ a v) : V1 ρ a v := by
  cases a <;> first | exact h | exact h.elim
theorem VA.of {ρ : Rn} {a : AV} {v : Value} (h : VP ρ a v) : VA ρ a v := by
  cases a <;> first | exact h | exact h.elim

/-- A cell's value is one cell. -/
theorem VA.one {ρ : Rn} {a : AV} {v : Value} (h : VA ρ a v) : v.oneCell' = true ∧ v.cells = #[v] ∧ a.cells = [a] := by
  cases a <;> simp only [VA, VP] at h <;> try exact h.elim
  case fn => obtain ⟨rc, rfl, -⟩ := h; exact ⟨rfl, rfl, rfl⟩
  case pv => obtain ⟨p, -, -, rfl⟩ := h; exact ⟨rfl, rfl, rfl⟩
  case pe => obtain ⟨p, -, -, -, -, rfl⟩ := h; exact ⟨rfl, rfl, rfl⟩
  case sl => obtain ⟨p, -, -, -, off, cap, -, -, -, rfl⟩ := h; exact ⟨rfl, rfl, rfl⟩
  case mp => obtain ⟨b, -, rfl⟩ := h; exact ⟨rfl, rfl, rfl⟩
  all_goals (subst h; exact ⟨rfl, rfl, rfl⟩)
theorem V1.cells {ρ : Rn} {a : AV} {v : Value} (h : V1 ρ a v) : All2 (VA ρ) a.cells v.cells.toList := by
  cases a
  case ag xs => obtain ⟨ys, rfl, hc⟩ := h; exact hc
  all_goals (simp only [V1] at h; obtain ⟨-, h2, h3⟩ := VA.one h; rw [h2, h3]; exact ⟨h, trivial⟩)
theorem V1.size {ρ : Rn} {a : AV} {v : Value} (h : V1 ρ a v) : a.cells.length = v.cells.size := by
  rw [h.cells.len, Array.length_toList]
/-- What V2 tells of a value whose cells lie in memory. -/
theorem V2.one {ρ : Rn} {a : AV} {v : Value} (h : V2 ρ a v) (ht : ∀ xs, a ≠ .tp xs) : V1 ρ a v := by
  cases a <;> first | exact h | exact absurd rfl (ht _)

theorem flat_append : ∀ (l m : List AV), flat (l ++ m) = flat l ++ flat m
  | [], _ => rfl
  | x :: r, m => by simp [flat, flat_append r m]
theorem flat_len {z : Nat} : ∀ {l : List AV}, (∀ x ∈ l, x.cells.length = z) → (flat l).length = l.length * z
  | [], _ => by simp [flat]
  | x :: r, h => by
    simp only [flat, List.length_append, List.length_cons, h x (by simp), flat_len (l := r) fun y hy => h y (by simp [hy])]
    rw [Nat.add_mul]; omega
theorem flat_drop {z : Nat} : ∀ (n : Nat) {l : List AV}, (∀ x ∈ l, x.cells.length = z) → flat (l.drop n) = (flat l).drop (n * z)
  | 0, _, _ => by simp
  | n + 1, [], _ => by simp [flat]
  | n + 1, x :: r, h => by
    have hx := h x (by simp)
    rw [List.drop_succ_cons, flat_drop n fun y hy => h y (by simp [hy]), flat, Nat.add_mul, Nat.one_mul, Nat.add_comm, ← List.drop_drop, ← hx, List.drop_left]
theorem flat_take {z : Nat} : ∀ (n : Nat) {l : List AV}, (∀ x ∈ l, x.cells.length = z) → flat (l.take n) = (flat l).take (n * z)
  | 0, _, _ => by simp [flat]
  | n + 1, [], _ => by simp [flat]
  | n + 1, x :: r, h => by
    have hx := h x (by simp)
    rw [List.take_succ_cons, flat, flat, flat_take n fun y hy => h y (by simp [hy]), Nat.add_mul, Nat.one_mul, Nat.add_comm (n * z), ← hx, List.take_length_add_append]
theorem flat_getD {z : Nat} : ∀ (n : Nat) {l : List AV}, (∀ x ∈ l, x.cells.length = z) → n < l.length → (l.getD n .u).cells = ((flat l).drop (n * z)).take z
  | 0, x :: r, h, _ => by
    have hx := h x (by simp)
    simp only [List.getD_cons_zero, Nat.zero_mul, List.drop_zero, flat]
    rw [← hx, List.take_left]
  | n + 1, x :: r, h, hn => by
    have hx := h x (by simp)
    rw [List.getD_cons_succ, flat_getD n (fun y hy => h y (by simp [hy])) (by simpa using hn), flat, Nat.add_mul, Nat.one_mul, Nat.add_comm (n * z) z, ← List.drop_drop, ← hx, List.drop_left]
  | _, [], _, hn => by simp at hn

end Go.Vm
