/- Elements of own slices, changed field by field; and the decimal text that a mark is. -/
import Derived.Test.YtfamnghjibckbaaSl0
import Derived.Test.YtfamnghjibckbaaCu2
namespace Go.Vm
set_option linter.unusedVariables false
set_option linter.unusedSimpArgs false
section
variable {C : Tab} {α : Type} {E : Enc α}
theorem Mx.stf {H : AH} {a : AV} {cur : List α} {x x' : α} {i off z : Nat} {v : AV} (h : Mx H E a (cur.set i x)) (hz : E.z = z) (hi : i < cur.length) (ho : off < z) (hv : v.cells = [v]) (hx : (E.fn x).set off v = E.fn x') :
    slZ H z a ∧ iaC (i : Int) a ∧ faC (iaV i a) ∧ (∀ (L : List Lv) (g : Nat), stC ⟨L, g, H⟩ v (faV off (iaV i a))) ∧ ∃ H', (∀ (L : List Lv) (g : Nat), stM ⟨L, g, H⟩ v (faV off (iaV i a)) = ⟨L, g, H'⟩) ∧ Mx H' E a (cur.set i x') ∧ H'.n = H.n ∧ ∀ j, ¬ j ∈ idA a → H'.at' j = H.at' j := by
  subst hz
  have hl : ((cur.set i x).map E.v).length = cur.length := by simp
  have hg : ((cur.set i x).map E.v).getD i .u = E.v x := by simp [List.getD, hi]
  have hset : setEl (E.v x) off v = E.v x' := by
    simp only [Enc.v, setEl, setPart, hv, List.length_singleton]
    rw [← hx, List.set_eq_take_append_cons_drop, if_pos (by rw [E.len]; exact ho)]
    simp
  have hmap : ((cur.set i x).map E.v).set i (E.v x') = (cur.set i x').map E.v := by simp [List.map_set]
  obtain ⟨h1, h2, h3, -⟩ := (Mn.sl h).ia (j := i) (by omega) (by rw [hl]; omega)
  rw [Int.toNat_natCast] at h3
  obtain ⟨h4, H', h5, h6, h7, h8⟩ := Mn.st h (j := i) (by omega) (by rw [hl]; omega) (v := v) (off := off) (by rw [Int.toNat_natCast, hg, Enc.cells, hv]; simp; omega) [] 0
  rw [Int.toNat_natCast, hg, hset, hmap] at h6
  rw [Int.toNat_natCast] at h4 h5
  have hst : ∀ (L : List Lv) (g : Nat), stC ⟨L, g, H⟩ v (faV off (iaV i a)) ∧ stM ⟨L, g, H⟩ v (faV off (iaV i a)) = ⟨L, g, H'⟩ := fun L g => by
    have h' : Mn H E.z a ((cur.set i x).map E.v) := h
    generalize (cur.set i x).map E.v = els at h' hl
    cases h' with
    | nil => simp at hl; omega
    | own k1 k2 =>
      refine ⟨h4, ?_⟩
      simp only [iaV, faV, stM, k2] at h5 ⊢
      have := congrArg Mem.h h5
      simp only at this
      rw [this]
  exact ⟨h1, h2, h3, fun L g => (hst L g).1, H', fun L g => (hst L g).2, h6, h7, h8⟩
theorem Sx.fdn {H : AH} {a : AV} {xs : List α} (h : Sx H E a xs) {i off z : Nat} (hz : E.z = z) (hi : i < xs.length) (ho : off < z) : slZ H z a ∧ iaC (i : Int) a ∧ faC (iaV i a) ∧ (∀ (L : List Lv) (g : Nat), ldC ⟨L, g, H⟩ none (faV off (iaV i a))) ∧ ∀ (L : List Lv) (g : Nat), ldX ⟨L, g, H⟩ none (faV off (iaV i a)) = (E.fn xs[i]).getD off .u := by
  subst hz
  obtain ⟨h1, h2, h3, -⟩ := h.fd (j := i) (by omega) (by omega) ho [] 0 hi
  exact ⟨h1, h2, h3, fun L g => (h.fd (j := i) (by omega) (by omega) ho L g hi).2.2.2.1, fun L g => (h.fd (j := i) (by omega) (by omega) ho L g hi).2.2.2.2⟩
/-- The elements that a mark leaves: c numbers each. -/
def mks (mk : Nat → α) (c k n : Nat) : List α := (List.range n).map fun j => mk (k + c * j)
theorem mks_len (mk : Nat → α) (c k n : Nat) : (mks mk c k n).length = n := by simp [mks]
theorem mks_get (mk : Nat → α) (c k n i : Nat) (h : i < (mks mk c k n).length) : (mks mk c k n)[i] = mk (k + c * i) := by simp [mks]
theorem mks_step {mk : Nat → α} {c k i : Nat} {xs : List α} (hi : i < xs.length) : (mks mk c k i ++ xs.drop i).set i (mk (k + c * i)) = mks mk c k (i + 1) ++ xs.drop (i + 1) := by
  rw [List.set_append_right _ _ (by rw [mks_len]; exact Nat.le_refl _), mks_len, Nat.sub_self, List.drop_eq_getElem_cons hi, List.set_cons_zero]
  simp [mks, List.range_succ]
theorem mks_cur {mk : Nat → α} {c k i : Nat} {xs : List α} (hi : i < xs.length) : (mks mk c k i ++ xs.drop i).length = xs.length ∧ (mks mk c k i ++ xs.drop i).set i xs[i] = mks mk c k i ++ xs.drop i := by
  refine ⟨by simp [mks]; omega, ?_⟩
  rw [List.set_append_right _ _ (by rw [mks_len]; exact Nat.le_refl _), mks_len, Nat.sub_self, List.drop_eq_getElem_cons hi, List.set_cons_zero]
/-- Behind changes of rows of its own: all else stays. -/
structure Kp (ids : List Nat) (H H' : AH) : Prop where
  n : H.n ≤ H'.n
  at' : ∀ i, i < H.n → ¬ i ∈ ids → H'.at' i = H.at' i
theorem Kp.refl (ids : List Nat) (H : AH) : Kp ids H H := ⟨Nat.le_refl _, fun _ _ _ => rfl⟩
theorem Kp.trans {ids : List Nat} {H H1 H2 : AH} (h : Kp ids H H1) (h' : Kp ids H1 H2) : Kp ids H H2 := ⟨Nat.le_trans h.n h'.n, fun i hi hn => (h'.at' i (Nat.lt_of_lt_of_le hi h.n) hn).trans (h.at' i hi hn)⟩
theorem Kp.ext {ids : List Nat} {H H' : AH} (h : Ext H H') : Kp ids H H' := ⟨h.n, fun i hi _ => h.at' i hi⟩
theorem Kp.st {ids : List Nat} {H H' : AH} (hn : H'.n = H.n) (h : ∀ j, ¬ j ∈ ids → H'.at' j = H.at' j) : Kp ids H H' := ⟨Nat.le_of_eq hn.symm, fun i _ hi => h i hi⟩
theorem Kp.mono {ids js : List Nat} {H H' : AH} (h : Kp ids H H') (hs : ∀ i, i ∈ ids → i ∈ js) : Kp js H H' := ⟨h.n, fun i hi hn => h.at' i hi fun hm => hn (hs i hm)⟩
/-- Rows of its own are nobody else's. -/
theorem Kp.put {ids : List Nat} {H0 H H' : AH} (he : Ext H0 H) (h : Kp ids H H') (hi : ∀ i, i ∈ ids → H0.n ≤ i) : Ext H0 H' := he.put hi h.n h.at'
theorem Kp.sl {ids : List Nat} {H H' : AH} {z : Nat} {a : AV} {els : List AV} (h : Kp ids H H') (hs : Sl H z a els) (hd : ∀ i, i ∈ idA a → ¬ i ∈ ids) : Sl H' z a els := hs.fr h.n fun i hi => h.at' i (hs.lt i hi) (hd i hi)
theorem Kp.mn {ids : List Nat} {H H' : AH} {z : Nat} {a : AV} {els : List AV} (h : Kp ids H H') (hs : Mn H z a els) (hd : ∀ i, i ∈ idA a → ¬ i ∈ ids) : Mn H' z a els := hs.fr h.n fun i hi => h.at' i (hs.lt i hi) (hd i hi)
/-! The text of a mark. -/
def dgs (k : Nat) (out : List UInt8) : List UInt8 := if h : k = 0 then out else dgs (k / 10) (UInt8.ofNat (48 + k % 10) :: out)
termination_by k
decreasing_by omega
def mt (k : Nat) : List UInt8 := if k = 0 then [109, 48] else 109 :: dgs k []
def T_mt (C : Tab) (f : Nat) : Prop := ∀ (k : Nat) (H : AH), k ≤ 1099511627776 → ∃ H', C f [.i .i64 k] H = some (.s (mt k), H') ∧ Ext H H'
end
end Go.Vm
