import Derived.Test.YtfamnghjibckbaaDoorTt3
import Derived.Laws.Bits64
import Derived.Test.YtfamnghjibckbaaDoorProg
import Derived.KernelRfl
/- Runs of helpers of EdnsRecord. -/
namespace Go.Vm
set_option linter.unusedVariables false
set_option linter.unusedSimpArgs false
theorem Mb.new2 {H : AH} {l : List UInt8} {n : Nat} (h : l.length = n) : Mb (H.new (.arr true 0 1 (encB l))) (.sl H.n 0 n) l := by
  subst h
  have := Mn.own (H := H.new (.arr true 0 1 (encB l))) (z := 1) (by simp) new_at
  rwa [enc_len] at this
section
variable {C : Tab}
/-- A record: its cells. -/
structure Rr where
  o : List UInt8
  t : Int
  c : Int
  ttl : Int
  d : List UInt8
theorem r_l04In {x m : Int} {H : AH} : Runs C c_spec_l04In [.i .i64 x, .i .i64 m] H fun v H' => H' = H ∧ v = .b (decide (0 ≤ x ∧ x ≤ m)) := by
  unfold Runs c_spec_l04In
  by_cases h : 0 ≤ x
  · by_cases h' : x ≤ m <;> simp only [bU, reduceIte, Nat.reduceEqDiff, reduceCtorEq, implies_true, forall_const, eq_self, Nat.reduceAdd, Nat.reduceLT, bne_self_eq_false, bT, eq_self, true_implies, false_implies, forall_const, if_true, if_false, Int.reduceToNat, Nat.reduceSub, Int.reduceLE, bV, Nat.reduceAdd, Nat.reduceLT, Nat.reduceLeDiff, Nat.reduceLeDiff, h, h', endK, rsC, rsV, resV]
  · simp only [bU, reduceIte, Nat.reduceEqDiff, reduceCtorEq, implies_true, forall_const, eq_self, Nat.reduceAdd, Nat.reduceLT, bne_self_eq_false, bT, eq_self, true_implies, false_implies, forall_const, if_true, if_false, Int.reduceToNat, Nat.reduceSub, Int.reduceLE, bV, Nat.reduceAdd, Nat.reduceLT, Nat.reduceLeDiff, Nat.reduceLeDiff, h, endK, rsC, rsV, resV, false_and]
theorem r_within {x lo m : Int} {H : AH} : Runs C c_impl_within [.i .i64 x, .i .i64 lo, .i .i64 m] H fun v H' => H' = H ∧ v = .b (decide (lo ≤ x ∧ x ≤ m)) := by
  unfold Runs c_impl_within
  by_cases h : lo ≤ x
  · by_cases h' : x ≤ m <;> simp only [bU, reduceIte, Nat.reduceEqDiff, reduceCtorEq, implies_true, forall_const, eq_self, Nat.reduceAdd, Nat.reduceLT, bne_self_eq_false, bT, eq_self, true_implies, false_implies, forall_const, if_true, if_false, Int.reduceToNat, Nat.reduceSub, Int.reduceLE, bV, Nat.reduceAdd, Nat.reduceLT, Nat.reduceLeDiff, Nat.reduceLeDiff, h, h', endK, rsC, rsV, resV]
  · simp only [bU, reduceIte, Nat.reduceEqDiff, reduceCtorEq, implies_true, forall_const, eq_self, Nat.reduceAdd, Nat.reduceLT, bne_self_eq_false, bT, eq_self, true_implies, false_implies, forall_const, if_true, if_false, Int.reduceToNat, Nat.reduceSub, Int.reduceLE, bV, Nat.reduceAdd, Nat.reduceLT, Nat.reduceLeDiff, Nat.reduceLeDiff, h, endK, rsC, rsV, resV, false_and]
def be16 (n : Nat) : List UInt8 := [UInt8.ofNat (n / 256), UInt8.ofNat n]
theorem r_p16 {n : Nat} {H : AH} (hn : n ≤ 65535) : Runs C c_impl_p16 [.i .i64 n] H fun v H' => Ext H H' ∧ v = .s (be16 n) := by
  unfold Runs c_impl_p16
  have v3 : (2 : Int) ^ (min 8 IntKind.i64.bits) = 256 := by decide
  have v4 : (n : Int).fdiv 256 = ((n / 256 : Nat) : Int) := by
    rw [Int.fdiv_eq_ediv_of_nonneg _ (by omega)]; omega
  have hm : Mb (H.new (.arr true 0 1 (encB (be16 n)))) (.sl H.n 0 2) (be16 n) := Mb.new2 rfl
  obtain ⟨c1, c2⟩ := Byt.cbs hm.sl
  simp only [encB, be16, List.map_cons, List.map_nil] at c1 c2
  simp only [bU, reduceIte, Nat.reduceEqDiff, reduceCtorEq, implies_true, forall_const, eq_self, Nat.reduceAdd, Nat.reduceLT, bne_self_eq_false, bT, eq_self, true_implies, false_implies, forall_const, if_true, if_false, Int.reduceToNat, Nat.reduceSub, Int.reduceLE, bV, Nat.reduceAdd, Nat.reduceLT, Nat.reduceLeDiff, Nat.reduceLeDiff, v3, v4, u8w, fillEC, fillE, List.replicate, List.set_cons_succ, List.set, c1, c2, endK, rsC, rsV, resV]
  exact ⟨Ext.new _ _, rfl⟩
/-- A number's bytes, the high one first. -/
def beK (n : Nat) : Nat → List UInt8
  | 0 => []
  | k + 1 => UInt8.ofNat (n / 256 ^ k) :: beK n k
theorem r_l02Put {n k : Nat} {H : AH} (hn : n ≤ 4611686018427387904) (hk : k ≤ 8) : Runs C c_spec_l02Put [.i .i64 n, .i .i64 k] H fun v H' => Ext H H' ∧ v = .s (beK n k) := by
  unfold Runs c_spec_l02Put
  have hw : IntKind.i64.wrap ((k : Int) - 1) = (k : Int) - 1 := w64 (by omega) (by omega)
  simp only [bS, reduceIte, Nat.reduceEqDiff, bT, eq_self, true_implies, false_implies, forall_const, if_true, if_false, Int.reduceToNat, Nat.reduceSub, Int.reduceLE, hw]
  refine exec_loop (fun m e M => ∃ o done L g H', m ≤ k ∧ look e 0 = .i .i64 n ∧ look e 5 = o ∧ look e 6 = .i .i64 ((m : Int) - 1) ∧ M = ⟨L, g, H'⟩ ∧ Mb H' o done ∧ Ext H H' ∧ (∀ i, i ∈ idA o → H.n ≤ i) ∧ done.length + m = k ∧ beK n k = done ++ beK n m) ?_ (n := k)
    ⟨.sl H.n 0 0, [], _, _, _, Nat.le_refl _, rfl, rfl, rfl, rfl, Mb.new2 (l := []) rfl, Ext.new _ _, by simp [idA], by simp, rfl⟩
  rintro m e M ⟨o, done, L, g, H', hm, q0, q5, q6, rfl, mb, he, hid, hlen, hbe⟩
  cases m with
  | zero =>
    have e1 : ¬ (0 : Int) ≤ ((0 : Nat) : Int) - 1 := by omega
    obtain ⟨c1, c2⟩ := Byt.cbs mb.sl
    simp only [bU, reduceIte, Nat.reduceEqDiff, reduceCtorEq, implies_true, forall_const, eq_self, Nat.reduceAdd, Nat.reduceLT, bne_self_eq_false, bT, eq_self, true_implies, false_implies, forall_const, if_true, if_false, Int.reduceToNat, Nat.reduceSub, Int.reduceLE, q0, q5, q6, e1, c1, c2, endK, rsC, rsV, resV]
    exact ⟨he, by rw [hbe]; simp [beK]⟩
  | succ m =>
    have e1 : (0 : Int) ≤ ((m + 1 : Nat) : Int) - 1 := by omega
    have e2 : ((m + 1 : Nat) : Int) - 1 = (m : Int) := by omega
    have w1 : IntKind.i64.wrap (8 * (m : Int)) = 8 * (m : Int) := w64 (by omega) (by omega)
    have w2 : IntKind.u64.wrap (8 * (m : Int)) = 8 * (m : Int) := by rw [IntKind.wrap_u64]; omega
    have w3 : min ((8 * (m : Int)).toNat) IntKind.i64.bits = 8 * m := by
      have : IntKind.i64.bits = 64 := rfl
      omega
    have w4 : (n : Int).fdiv (2 ^ (8 * m)) = ((n / 256 ^ m : Nat) : Int) := by
      have h2 : (256 : Nat) ^ m = 2 ^ (8 * m) := by rw [Nat.pow_mul]
      rw [Int.fdiv_eq_ediv_of_nonneg _ (Int.le_of_lt (Int.pow_pos (by decide))), h2, Int.natCast_ediv, Int.natCast_pow]
      rfl
    have w5 : IntKind.i64.wrap ((m : Int) - 1) = (m : Int) - 1 := w64 (by omega) (by omega)
    have w6 : (0 : Int) ≤ 8 * (m : Int) := by omega
    have hsrc := lit_src (t := 21) (g := g) (x := .i .u8 (UInt8.ofNat (n / 256 ^ m)).toNat) (L := dropL (keepL [0, 5, 6] L) 21) (H := H')
    obtain ⟨p1, o', H2, p2, p3, p4, p5, p6, p7, -⟩ := Mn.ap (by' := 1) mb hsrc (by simp; omega)
    have e3 : (0 : Int) ≤ (m : Int) := by omega
    simp only [bU, reduceIte, Nat.reduceEqDiff, reduceCtorEq, implies_true, forall_const, eq_self, Nat.reduceAdd, Nat.reduceLT, bne_self_eq_false, bT, eq_self, true_implies, false_implies, forall_const, if_true, if_false, Int.reduceToNat, Nat.reduceSub, Int.reduceLE, q0, q5, q6, e1, e2, e3, w1, w2, w3, w4, w5, w6, u8w, p1, p2, p3]
    refine ⟨m, by omega, o', done ++ [UInt8.ofNat (n / 256 ^ m)], _, _, H2, by omega, rfl, rfl, rfl, ?_, he.put hid p5 p6, ?_, by simp; omega, by rw [hbe]; simp [beK]⟩
    · unfold Mb; rw [enc_app]; exact p4
    · intro i hi
      rcases p7 i hi with h | h
      · exact hid i h
      · have := he.n; omega
end
end Go.Vm
/- EdnsRecord: the pure answer, and the spec's run. -/
namespace Go.Vm
set_option linter.unusedVariables false
set_option linter.unusedSimpArgs false
abbrev Opt := Int × List UInt8
def eO : Enc Opt := ⟨2, fun o => [.i .i64 o.1, .s o.2], fun _ => rfl⟩
def eR : Enc Rr := ⟨5, fun r => [.s r.o, .i .i64 r.t, .i .i64 r.c, .i .i64 r.ttl, .s r.d], fun _ => rfl⟩
def optOk (o : Opt) : Prop := 0 ≤ o.1 ∧ o.1 ≤ 65535 ∧ o.2.length ≤ 65535
instance (o : Opt) : Decidable (optOk o) := inferInstanceAs (Decidable (_ ∧ _ ∧ _))
def T_in (C : Tab) (f : Nat) : Prop := ∀ (x m : Int) (H : AH), C f [.i .i64 x, .i .i64 m] H = some (.b (decide (0 ≤ x ∧ x ≤ m)), H)
def T_within (C : Tab) (f : Nat) : Prop := ∀ (x lo m : Int) (H : AH), C f [.i .i64 x, .i .i64 lo, .i .i64 m] H = some (.b (decide (lo ≤ x ∧ x ≤ m)), H)
def T_p16 (C : Tab) (f : Nat) : Prop := ∀ (n : Nat) (H : AH), n ≤ 65535 → ∃ H', C f [.i .i64 n] H = some (.s (be16 n), H') ∧ Ext H H'
def T_put2 (C : Tab) (f : Nat) : Prop := ∀ (n : Nat) (H : AH), n ≤ 65535 → ∃ H', C f [.i .i64 n, .i .i64 2] H = some (.s (be16 n), H') ∧ Ext H H'
section
variable {C : Tab}
end
end Go.Vm
/- EdnsRecord: the program's run, and the law's. -/
namespace Go.Vm
set_option linter.unusedVariables false
set_option linter.unusedSimpArgs false
theorem or_hi {x y : Nat} {k : Nat} (hy : y < 2 ^ k) (h : x * 2 ^ k + y < 9223372036854775808) : bitw .or .i64 ((x * 2 ^ k : Nat) : Int) (y : Int) = ((x * 2 ^ k + y : Nat) : Int) := by
  have e2 : x * 2 ^ k ||| y = x * 2 ^ k + y := by
    have := Nat.two_pow_add_eq_or_of_lt (i := k) (b := y) hy x
    rw [Nat.mul_comm]; exact this.symm
  unfold bitw
  simp only
  rw [show IntKind.i64.bits = 64 from rfl, BitVec.ofInt_natCast, BitVec.ofInt_natCast, BitVec.toNat_or, BitVec.toNat_ofNat, BitVec.toNat_ofNat, Nat.mod_eq_of_lt (by omega), Nat.mod_eq_of_lt (by omega), e2, w64 (by omega) (by omega)]
section
variable {C : Tab}
end
end Go.Vm
/- Functions' code as literals of the abstract machine, printed by wip/tools/lits.py; the kernel checks each against the translation. -/
namespace Go.Vm
set_option linter.unusedVariables false
set_option linter.unusedSimpArgs false
/-- loop.example/s01858/impl.ReadEdns -/
def c_impl_ReadEdns : Fn := ⟨1, [(.c 2 (some 5)), (.t 3)],
    .q (.o [.lbx 1 (.t 0),
      .lal 2 (.ag [(.b false), (.i .i64 0), (.i .i64 0), (.i .i64 0), .ns]),
      .mv 3 (.c (.i .i64 0))])
    (.q (.q (.o [.fa 13 (.t 1) 12,
      .ld 14 (.t 13) none,
      .fa 15 (.t 1) 13,
      .ld 16 (.t 15) none,
      .lbs 17 .ns 1 2 [(0, (.t 14)), (1, (.t 16))],
      .ln 18 (.t 17),
      .mv 19 (.c (.i .i64 0))])
    (.b 0 (.l [1, 2, 17, 18, 19] (.q (.o [.bn 20 .lss (.t 19) (.t 18)])
    (.q (.i (.t 20) (.k)
    (.x 0))
    (.q (.b 1 (.q (.o [.ia 21 (.t 17) (.t 19) 1,
      .ld 22 (.t 21) none,
      .mv 5 (.t 22)])
    (.q (.o [.mv 23 (.t 5),
      .ln 24 (.t 23),
      .mv 25 (.c (.i .i64 0))])
    (.b 2 (.l [1, 2, 17, 18, 19, 23, 24, 25] (.q (.o [.bn 26 .lss (.t 25) (.t 24)])
    (.q (.i (.t 26) (.k)
    (.x 2))
    (.q (.b 3 (.q (.o [.ia 27 (.t 23) (.t 25) 5,
      .ld 28 (.t 27) (some 5),
      .lal 7 (.ag [(.s []), (.i .i64 0), (.i .i64 0), (.i .i64 0), (.s [])]),
      .st (.t 7) (.t 28) 5])
    (.q (.o [.fa 29 (.t 7) 1,
      .ld 30 (.t 29) none,
      .bn 31 .eql (.t 30) (.c (.i .i64 41))])
    (.i (.t 31) (.q (.o [.bd 32 [(.b false), (.i .i64 0), (.i .i64 0), (.i .i64 0), .ns] [],
      .st (.t 2) (.t 32) 5,
      .mv 3 (.c (.i .i64 32))])
    (.r))
    (.k)))))
    (.o [.bn 33 .add (.t 25) (.c (.i .i64 1)),
      .mv 25 (.t 33)])))))))))
    (.o [.bn 34 .add (.t 19) (.c (.i .i64 1)),
      .mv 19 (.t 34)])))))))
    (.q (.o [.lal 8 (.ag [(.b false), (.i .i64 0), (.i .i64 0), (.i .i64 0), .ns])])
    (.q (.q (.o [.fa 35 (.t 1) 14,
      .ld 36 (.t 35) none,
      .ln 37 (.t 36),
      .mv 38 (.c (.i .i64 0))])
    (.b 4 (.l [2, 8, 36, 37, 38] (.q (.o [.bn 39 .lss (.t 38) (.t 37)])
    (.q (.i (.t 39) (.k)
    (.x 4))
    (.q (.b 5 (.q (.o [.ia 40 (.t 36) (.t 38) 5,
      .ld 41 (.t 40) (some 5),
      .lal 10 (.ag [(.s []), (.i .i64 0), (.i .i64 0), (.i .i64 0), (.s [])]),
      .st (.t 10) (.t 41) 5])
    (.q (.q (.o [.fa 42 (.t 10) 1,
      .ld 43 (.t 42) none,
      .bn 44 .neq (.t 43) (.c (.i .i64 41))])
    (.i (.t 44) (.x 5)
    (.k)))
    (.q (.q (.o [.fa 45 (.t 8) 0,
      .ld 46 (.t 45) none,
      .mv 47 (.t 46),
      .gd 47 false (.fa 48 (.t 10) 0),
      .gd 47 false (.ld 49 (.t 48) none),
      .gd 47 false (.bn 50 .neq (.t 49) (.c (.s [0]))),
      .pk 51 (.t 47) (.c (.b true)) (.t 50)])
    (.i (.t 51) (.q (.o [.bd 52 [(.b false), (.i .i64 0), (.i .i64 0), (.i .i64 0), .ns] [],
      .st (.t 2) (.t 52) 5,
      .mv 3 (.c (.i .i64 32))])
    (.r))
    (.k)))
    (.q (.o [.fa 53 (.t 10) 2,
      .ld 54 (.t 53) none,
      .fa 55 (.t 10) 3,
      .ld 56 (.t 55) none,
      .bn 57 .shr (.t 56) (.c (.i .u64 16)),
      .bn 58 .and (.t 57) (.c (.i .i64 255)),
      .fa 59 (.t 10) 3,
      .ld 60 (.t 59) none,
      .bn 61 .and (.t 60) (.c (.i .i64 65535)),
      .bd 62 [(.b false), (.i .i64 0), (.i .i64 0), (.i .i64 0), .ns] [(0, 1, (.c (.b true))), (1, 1, (.t 54)), (2, 1, (.t 58)), (3, 1, (.t 61))],
      .st (.t 8) (.t 62) 5])
    (.q (.o [.fa 63 (.t 10) 4,
      .ld 64 (.t 63) none,
      .mv 11 (.t 64)])
    (.b 6 (.l [2, 8, 11, 36, 37, 38] (.q (.q (.o [.mv 65 (.t 11),
      .bn 66 .neq (.t 65) (.c (.s []))])
    (.i (.t 66) (.k)
    (.x 6)))
    (.b 7 (.q (.q (.o [.mv 67 (.t 11),
      .lns 68 (.t 67),
      .bn 69 .lss (.t 68) (.c (.i .i64 4))])
    (.i (.t 69) (.q (.o [.bd 70 [(.b false), (.i .i64 0), (.i .i64 0), (.i .i64 0), .ns] [],
      .st (.t 2) (.t 70) 5,
      .mv 3 (.c (.i .i64 32))])
    (.r))
    (.k)))
    (.q (.o [.mv 71 (.t 11),
      .ss 72 (.t 71) (some (.c (.i .i64 2))) none,
      .cl (some 73) 34 [(.t 72)],
      .bn 74 .add (.c (.i .i64 4)) (.t 73),
      .mv 12 (.t 74)])
    (.q (.q (.o [.mv 75 (.t 12),
      .mv 76 (.t 11),
      .lns 77 (.t 76),
      .bn 78 .gtr (.t 75) (.t 77)])
    (.i (.t 78) (.q (.o [.bd 79 [(.b false), (.i .i64 0), (.i .i64 0), (.i .i64 0), .ns] [],
      .st (.t 2) (.t 79) 5,
      .mv 3 (.c (.i .i64 32))])
    (.r))
    (.k)))
    (.q (.p [⟨.fa 80 (.t 8) 4, [], false⟩,
      ⟨.ld 81 (.t 80) none, [], true⟩,
      ⟨.mv 82 (.t 11), [], false⟩,
      ⟨.cl (some 83) 34 [(.t 82)], [1], false⟩,
      ⟨.mv 84 (.t 11), [], false⟩,
      ⟨.mv 85 (.t 12), [], false⟩,
      ⟨.ss 86 (.t 84) (some (.c (.i .i64 4))) (some (.t 85)), [], false⟩,
      ⟨.bd 87 [(.i .i64 0), (.s [])] [(0, 1, (.t 83)), (1, 1, (.t 86))], [], false⟩,
      ⟨.lbs 88 (.ag [(.i .i64 0), (.s [])]) 2 1 [(0, (.t 87))], [1], false⟩,
      ⟨.ap 89 (.t 81) (.t 88) 2 24, [], false⟩,
      ⟨.fa 90 (.t 8) 4, [], false⟩,
      ⟨.st (.t 90) (.t 89) 1, [], false⟩])
    (.o [.mv 91 (.t 11),
      .mv 92 (.t 12),
      .ss 93 (.t 91) (some (.t 92)) none,
      .mv 11 (.t 93)])))))))))))))))
    (.o [.bn 94 .add (.t 38) (.c (.i .i64 1)),
      .mv 38 (.t 94)])))))))
    (.q (.o [.ld 95 (.t 8) (some 5),
      .st (.t 2) (.t 95) 5,
      .mv 3 (.c (.i .i64 0))])
    (.r)))))⟩
abbrev n_impl_ReadEdns : Nat := 11
theorem k_impl_ReadEdns : chkF Go.Proofs.Tryd.prog c_impl_ReadEdns 11 = true := by kernel_rfl
/-- loop.example/s01858/impl.u16 -/
def c_impl_u16 : Fn := ⟨1, [(.t 2)],
    .q (.o [.mv 2 (.c (.i .i64 0))])
    (.q (.p [⟨.mv 3 (.t 0), [], false⟩,
      ⟨.ix 4 (.t 3) (.c (.i .i64 0)), [], false⟩,
      ⟨.ci 5 .i64 (.t 4), [], false⟩,
      ⟨.bn 6 .shl (.t 5) (.c (.i .u64 8)), [], false⟩,
      ⟨.mv 7 (.t 0), [], false⟩,
      ⟨.ix 8 (.t 7) (.c (.i .i64 1)), [], false⟩,
      ⟨.ci 9 .i64 (.t 8), [], false⟩,
      ⟨.bn 10 .or (.t 6) (.t 9), [], false⟩,
      ⟨.mv 2 (.t 10), [], false⟩])
    (.r))⟩
abbrev n_impl_u16 : Nat := 34
theorem k_impl_u16 : chkF Go.Proofs.Tryd.prog c_impl_u16 34 = true := by kernel_rfl
/-- loop.example/s01858/spec.ReadEdns -/
def c_spec_ReadEdns : Fn := ⟨1, [(.c 2 (some 5)), (.t 3)],
    .q (.o [.lbx 1 (.t 0),
      .lal 2 (.ag [(.b false), (.i .i64 0), (.i .i64 0), (.i .i64 0), .ns]),
      .mv 3 (.c (.i .i64 0))])
    (.q (.q (.p [⟨.fa 8 (.t 1) 12, [], false⟩,
      ⟨.ld 9 (.t 8) none, [], false⟩,
      ⟨.cl (some 10) 86 [(.t 9), (.c (.i .i64 41))], [], true⟩,
      ⟨.fa 11 (.t 1) 13, [], false⟩,
      ⟨.ld 12 (.t 11) none, [2], false⟩,
      ⟨.cl (some 13) 86 [(.t 12), (.c (.i .i64 41))], [], false⟩,
      ⟨.bn 14 .add (.t 10) (.t 13), [], false⟩,
      ⟨.bn 15 .gtr (.t 14) (.c (.i .i64 0)), [], false⟩,
      ⟨.mv 16 (.t 15), [], false⟩,
      ⟨.gd 16 false (.fa 17 (.t 1) 14), [], false⟩,
      ⟨.gd 16 false (.ld 18 (.t 17) none), [], false⟩,
      ⟨.gd 16 false (.cl (some 19) 86 [(.t 18), (.c (.i .i64 41))]), [], false⟩,
      ⟨.gd 16 false (.bn 20 .gtr (.t 19) (.c (.i .i64 1))), [], false⟩,
      ⟨.pk 21 (.t 16) (.c (.b true)) (.t 20), [], false⟩])
    (.i (.t 21) (.q (.o [.bd 22 [(.b false), (.i .i64 0), (.i .i64 0), (.i .i64 0), .ns] [],
      .st (.t 2) (.t 22) 5,
      .mv 3 (.c (.i .i64 32))])
    (.r))
    (.k)))
    (.q (.q (.o [.mv 4 (.c (.i .i64 0))])
    (.b 0 (.l [1, 2, 4] (.q (.q (.o [.mv 23 (.t 4),
      .fa 24 (.t 1) 14,
      .ld 25 (.t 24) none,
      .ln 26 (.t 25),
      .bn 27 .lss (.t 23) (.t 26)])
    (.i (.t 27) (.k)
    (.x 0)))
    (.q (.b 1 (.q (.o [.fa 30 (.t 1) 14,
      .ld 31 (.t 30) none,
      .mv 32 (.t 4),
      .ia 33 (.t 31) (.t 32) 5,
      .ld 34 (.t 33) (some 5),
      .lal 5 (.ag [(.s []), (.i .i64 0), (.i .i64 0), (.i .i64 0), (.s [])]),
      .st (.t 5) (.t 34) 5])
    (.q (.q (.o [.fa 35 (.t 5) 1,
      .ld 36 (.t 35) none,
      .bn 37 .neq (.t 36) (.c (.i .i64 41))])
    (.i (.t 37) (.x 1)
    (.k)))
    (.q (.o [.fa 39 (.t 5) 4,
      .ld 40 (.t 39) none,
      .cl (some 41) 87 [(.t 40)],
      .mv 38 (.t 41),
      .ex 42 (.t 38) 0,
      .ex 43 (.t 38) 1,
      .mv 6 (.t 42),
      .mv 7 (.t 43)])
    (.q (.q (.o [.mv 44 (.t 7),
      .un 45 .not (.t 44),
      .mv 46 (.t 45),
      .gd 46 false (.fa 47 (.t 5) 0),
      .gd 46 false (.ld 48 (.t 47) none),
      .gd 46 false (.bn 49 .neq (.t 48) (.c (.s [0]))),
      .pk 50 (.t 46) (.c (.b true)) (.t 49)])
    (.i (.t 50) (.q (.o [.bd 51 [(.b false), (.i .i64 0), (.i .i64 0), (.i .i64 0), .ns] [],
      .st (.t 2) (.t 51) 5,
      .mv 3 (.c (.i .i64 32))])
    (.r))
    (.k)))
    (.q (.o [.fa 52 (.t 5) 2,
      .ld 53 (.t 52) none,
      .fa 54 (.t 5) 3,
      .ld 55 (.t 54) none,
      .bn 56 .shr (.t 55) (.c (.i .u64 16)),
      .bn 57 .and (.t 56) (.c (.i .i64 255)),
      .fa 58 (.t 5) 3,
      .ld 59 (.t 58) none,
      .bn 60 .and (.t 59) (.c (.i .i64 65535)),
      .mv 61 (.t 6),
      .bd 62 [(.b false), (.i .i64 0), (.i .i64 0), (.i .i64 0), .ns] [(0, 1, (.c (.b true))), (1, 1, (.t 53)), (2, 1, (.t 57)), (3, 1, (.t 60)), (4, 1, (.t 61))],
      .st (.t 2) (.t 62) 5,
      .mv 3 (.c (.i .i64 0))])
    (.r)))))))
    (.o [.mv 28 (.t 4),
      .bn 29 .add (.t 28) (.c (.i .i64 1)),
      .mv 4 (.t 29)]))))))
    (.q (.o [.bd 63 [(.b false), (.i .i64 0), (.i .i64 0), (.i .i64 0), .ns] [],
      .st (.t 2) (.t 63) 5,
      .mv 3 (.c (.i .i64 0))])
    (.r))))⟩
abbrev n_spec_ReadEdns : Nat := 56
theorem k_spec_ReadEdns : chkF Go.Proofs.Tryd.prog c_spec_ReadEdns 56 = true := by kernel_rfl
/-- loop.example/s01858/spec.l13Count -/
def c_spec_l13Count : Fn := ⟨2, [(.t 4)],
    .q (.o [.mv 4 (.c (.i .i64 0))])
    (.q (.o [.mv 5 (.c (.i .i64 0))])
    (.q (.q (.o [.mv 6 (.c (.i .i64 0))])
    (.b 0 (.l [0, 1, 5, 6] (.q (.q (.o [.mv 7 (.t 6),
      .mv 8 (.t 0),
      .ln 9 (.t 8),
      .bn 10 .lss (.t 7) (.t 9)])
    (.i (.t 10) (.k)
    (.x 0)))
    (.q (.b 1 (.q (.o [.mv 13 (.t 0),
      .mv 14 (.t 6),
      .ia 15 (.t 13) (.t 14) 5,
      .fa 16 (.t 15) 1,
      .ld 17 (.t 16) none,
      .mv 18 (.t 1),
      .bn 19 .eql (.t 17) (.t 18)])
    (.i (.t 19) (.o [.mv 20 (.t 5),
      .bn 21 .add (.t 20) (.c (.i .i64 1)),
      .mv 5 (.t 21)])
    (.k))))
    (.o [.mv 11 (.t 6),
      .bn 12 .add (.t 11) (.c (.i .i64 1)),
      .mv 6 (.t 12)]))))))
    (.q (.o [.mv 22 (.t 5),
      .mv 4 (.t 22)])
    (.r))))⟩
abbrev n_spec_l13Count : Nat := 86
theorem k_spec_l13Count : chkF Go.Proofs.Tryd.prog c_spec_l13Count 86 = true := by kernel_rfl
/-- loop.example/s01858/spec.l13Options -/
def c_spec_l13Options : Fn := ⟨1, [(.t 2), (.t 3)],
    .q (.o [.mv 2 (.c .ns),
      .mv 3 (.c (.b false))])
    (.q (.o [.bs 6 (.ag [(.i .i64 0), (.s [])]) 2 0 [],
      .mv 4 (.t 6)])
    (.q (.b 0 (.l [0, 4] (.q (.q (.o [.mv 7 (.t 0),
      .bn 8 .neq (.t 7) (.c (.s []))])
    (.i (.t 8) (.k)
    (.x 0)))
    (.b 1 (.q (.q (.o [.mv 9 (.t 0),
      .lns 10 (.t 9),
      .bn 11 .lss (.t 10) (.c (.i .i64 4)),
      .mv 12 (.t 11),
      .gd 12 false (.mv 13 (.t 0)),
      .gd 12 false (.lns 14 (.t 13)),
      .gd 12 false (.bn 15 .sub (.t 14) (.c (.i .i64 4))),
      .gd 12 false (.mv 16 (.t 0)),
      .gd 12 false (.ss 17 (.t 16) (some (.c (.i .i64 2))) (some (.c (.i .i64 4)))),
      .gd 12 false (.cl (some 18) 83 [(.t 17)]),
      .gd 12 false (.bn 19 .lss (.t 15) (.t 18)),
      .pk 20 (.t 12) (.c (.b true)) (.t 19)])
    (.i (.t 20) (.q (.o [.mv 2 (.c .ns),
      .mv 3 (.c (.b false))])
    (.r))
    (.k)))
    (.q (.o [.mv 21 (.t 0),
      .ss 22 (.t 21) (some (.c (.i .i64 2))) (some (.c (.i .i64 4))),
      .cl (some 23) 83 [(.t 22)],
      .bn 24 .add (.c (.i .i64 4)) (.t 23),
      .mv 5 (.t 24)])
    (.q (.p [⟨.mv 25 (.t 4), [], false⟩,
      ⟨.mv 26 (.t 0), [], false⟩,
      ⟨.ss 27 (.t 26) none (some (.c (.i .i64 2))), [], false⟩,
      ⟨.cl (some 28) 83 [(.t 27)], [], false⟩,
      ⟨.mv 29 (.t 0), [], false⟩,
      ⟨.mv 30 (.t 5), [], false⟩,
      ⟨.ss 31 (.t 29) (some (.c (.i .i64 4))) (some (.t 30)), [], false⟩,
      ⟨.bd 32 [(.i .i64 0), (.s [])] [(0, 1, (.t 28)), (1, 1, (.t 31))], [], false⟩,
      ⟨.lbs 33 (.ag [(.i .i64 0), (.s [])]) 2 1 [(0, (.t 32))], [], false⟩,
      ⟨.ap 34 (.t 25) (.t 33) 2 24, [], false⟩,
      ⟨.mv 4 (.t 34), [], false⟩])
    (.o [.mv 35 (.t 0),
      .mv 36 (.t 5),
      .ss 37 (.t 35) (some (.t 36)) none,
      .mv 0 (.t 37)]))))))))
    (.q (.o [.mv 38 (.t 4),
      .mv 2 (.t 38),
      .mv 3 (.c (.b true))])
    (.r))))⟩
abbrev n_spec_l13Options : Nat := 87
theorem k_spec_l13Options : chkF Go.Proofs.Tryd.prog c_spec_l13Options 87 = true := by kernel_rfl
end Go.Vm
/- Printed by wip/tools/tygen.py: runs of what the laws do with questions, records and options. -/
namespace Go.Vm
set_option linter.unusedVariables false
set_option linter.unusedSimpArgs false
structure Qn where
  n : List UInt8
  t : Int
  c : Int
def eQ : Enc Qn := ⟨3, fun q => [.s q.n, .i .i64 q.t, .i .i64 q.c], fun _ => rfl⟩
section
variable {C : Tab}
def w_Question (x : Qn) : Nat := x.n.length
def w_RR (x : Rr) : Nat := x.o.length + x.d.length
end
end Go.Vm
/- Messages: what the laws do with them (sizes, copies, comparisons, marks). -/
namespace Go.Vm
set_option linter.unusedVariables false
set_option linter.unusedSimpArgs false
structure Hd where
  id : Int
  qr : Bool
  op : Int
  aa : Bool
  tc : Bool
  rd : Bool
  ra : Bool
  z : Bool
  ad : Bool
  cd : Bool
  code : Int
def eH : Enc Hd := ⟨11, fun h => [.i .i64 h.id, .b h.qr, .i .i64 h.op, .b h.aa, .b h.tc, .b h.rd, .b h.ra, .b h.z, .b h.ad, .b h.cd, .i .i64 h.code], fun _ => rfl⟩
structure Msg where
  h : Hd
  q : List Qn
  an : List Rr
  au : List Rr
  ex : List Rr
def mV (h : Hd) (q a b c : AV) : AV := .ag [.i .i64 h.id, .b h.qr, .i .i64 h.op, .b h.aa, .b h.tc, .b h.rd, .b h.ra, .b h.z, .b h.ad, .b h.cd, .i .i64 h.code, q, a, b, c]
structure MsgS (H : AH) (q a b c : AV) (m : Msg) : Prop where
  hq : Sx H eQ q m.q
  ha : Sx H eR a m.an
  hb : Sx H eR b m.au
  hc : Sx H eR c m.ex
def Dj (a b : AV) : Prop := ∀ i, i ∈ idA a → ¬ i ∈ idA b
structure MsgM (H : AH) (n0 : Nat) (q a b c : AV) (m : Msg) : Prop where
  hq : Mx H eQ q m.q
  ha : Mx H eR a m.an
  hb : Mx H eR b m.au
  hc : Mx H eR c m.ex
  qa : Dj q a
  qb : Dj q b
  qc : Dj q c
  ab : Dj a b
  ac : Dj a c
  bc : Dj b c
  ge : ∀ i, i ∈ idA q ++ idA a ++ idA b ++ idA c → n0 ≤ i
section
variable {H H' : AH} {q a b c : AV} {m : Msg} {n0 : Nat}
theorem MsgM.s (h : MsgM H n0 q a b c m) : MsgS H q a b c m := ⟨h.hq.sl, h.ha.sl, h.hb.sl, h.hc.sl⟩
theorem MsgS.ext (h : MsgS H q a b c m) (he : Ext H H') : MsgS H' q a b c m := ⟨Sl.ext h.hq he, Sl.ext h.ha he, Sl.ext h.hb he, Sl.ext h.hc he⟩
theorem MsgM.ext (h : MsgM H n0 q a b c m) (he : Ext H H') : MsgM H' n0 q a b c m := ⟨Mn.ext h.hq he, Mn.ext h.ha he, Mn.ext h.hb he, Mn.ext h.hc he, h.qa, h.qb, h.qc, h.ab, h.ac, h.bc, h.ge⟩
theorem Dj.symm (h : Dj a b) : Dj b a := fun i hi hj => h i hj hi
theorem Dj.of {H1 H2 : AH} {z : Nat} {els : List AV} (h : Mn H1 z a els) (hb : ∀ i, i ∈ idA b → H1.n ≤ i) : Dj a b := fun i hi hj => by
  have := h.lt i hi
  have := hb i hj
  omega
end
/-- A message's bulk: records and letters. -/
def szM (m : Msg) : Nat := (m.q.length + tot' w_Question m.q) + (m.an.length + tot' w_RR m.an) + (m.au.length + tot' w_RR m.au) + (m.ex.length + tot' w_RR m.ex)
section
variable {C : Tab}
end
end Go.Vm
/- Functions' code as literals of the abstract machine, printed by wip/tools/lits.py; the kernel checks each against the translation. -/
namespace Go.Vm
set_option linter.unusedVariables false
set_option linter.unusedSimpArgs false
/-- loop.example/s01858/impl.hasPointers -/
def c_impl_hasPointers : Fn := ⟨1, [(.t 2)],
    .q (.o [.mv 2 (.c (.b false))])
    (.q (.o [.mv 3 (.t 0),
      .bn 4 .eql (.t 3) (.c (.i .i64 2)),
      .mv 5 (.t 4),
      .gd 5 false (.mv 6 (.t 0)),
      .gd 5 false (.bn 7 .eql (.t 6) (.c (.i .i64 5))),
      .pk 8 (.t 5) (.c (.b true)) (.t 7),
      .mv 9 (.t 8),
      .gd 9 false (.mv 10 (.t 0)),
      .gd 9 false (.bn 11 .eql (.t 10) (.c (.i .i64 12))),
      .pk 12 (.t 9) (.c (.b true)) (.t 11),
      .mv 13 (.t 12),
      .gd 13 false (.mv 14 (.t 0)),
      .gd 13 false (.bn 15 .eql (.t 14) (.c (.i .i64 15))),
      .pk 16 (.t 13) (.c (.b true)) (.t 15),
      .mv 17 (.t 16),
      .gd 17 false (.mv 18 (.t 0)),
      .gd 17 false (.bn 19 .eql (.t 18) (.c (.i .i64 6))),
      .pk 20 (.t 17) (.c (.b true)) (.t 19),
      .mv 2 (.t 20)])
    (.r))⟩
abbrev n_impl_hasPointers : Nat := 69
theorem k_impl_hasPointers : chkF Go.Proofs.Tryd.prog c_impl_hasPointers 69 = true := by kernel_rfl
/-- loop.example/s01858/impl.CheckData -/
def c_impl_CheckData : Fn := ⟨2, [(.t 4)],
    .q (.o [.mv 4 (.c (.i .i64 0))])
    (.q (.q (.o [.mv 7 (.t 0),
      .bn 8 .lss (.t 7) (.c (.i .i64 0)),
      .mv 9 (.t 8),
      .gd 9 false (.mv 10 (.t 0)),
      .gd 9 false (.bn 11 .gtr (.t 10) (.c (.i .i64 65535))),
      .pk 12 (.t 9) (.c (.b true)) (.t 11)])
    (.i (.t 12) (.q (.o [.mv 4 (.c (.i .i64 6))])
    (.r))
    (.k)))
    (.q (.q (.o [.mv 13 (.t 1),
      .lns 14 (.t 13),
      .bn 15 .gtr (.t 14) (.c (.i .i64 65535))])
    (.i (.t 15) (.q (.o [.mv 4 (.c (.i .i64 7))])
    (.r))
    (.k)))
    (.q (.q (.o [.mv 17 (.t 0),
      .mv 18 (.t 1),
      .cl (some 19) 98 [(.t 17), (.t 18)],
      .mv 16 (.t 19),
      .ex 20 (.t 16) 0,
      .ex 21 (.t 16) 1,
      .mv 5 (.t 20),
      .mv 6 (.t 21)])
    (.q (.o [.mv 22 (.t 6),
      .un 23 .not (.t 22)])
    (.i (.t 23) (.q (.o [.mv 4 (.c (.i .i64 7))])
    (.r))
    (.k))))
    (.q (.o [.mv 4 (.c (.i .i64 0))])
    (.r)))))⟩
abbrev n_impl_CheckData : Nat := 70
theorem k_impl_CheckData : chkF Go.Proofs.Tryd.prog c_impl_CheckData 70 = true := by kernel_rfl
/-- loop.example/s01858/impl.parsed -/
def c_impl_parsed : Fn := ⟨2, [(.t 4), (.t 5)],
    .q (.o [.bx 3 (.t 1),
      .mv 4 (.c .ns),
      .mv 5 (.c (.b false))])
    (.q (.o [.ld 20 (.g 1) none,
      .mv 21 (.t 0),
      .lk 22 (.t 20) (.t 21) (.s []) [(.i .i64)] true,
      .mv 19 (.t 22),
      .ex 23 (.t 19) 0,
      .ex 24 (.t 19) 1,
      .mv 6 (.t 23),
      .mv 7 (.t 24)])
    (.q (.q (.o [.mv 25 (.t 7),
      .un 26 .not (.t 25)])
    (.i (.t 26) (.q (.o [.mv 4 (.c .ns),
      .mv 5 (.c (.b true))])
    (.r))
    (.k)))
    (.q (.o [.mv 8 (.c .ns)])
    (.q (.o [.al 9 1 [(.i .i64 0)],
      .st (.t 9) (.c (.i .i64 0)) 1])
    (.q (.o [.mf 27 119 [(.t 3), (.t 9)],
      .mv 10 (.t 27)])
    (.q (.q (.o [.mv 28 (.t 6),
      .rs 29 (.t 28)])
    (.b 0 (.l [3, 8, 9, 10, 29] (.q (.o [.nx 30 (.t 29),
      .ex 31 (.t 30) 0])
    (.q (.i (.t 31) (.k)
    (.x 0))
    (.b 1 (.q (.o [.ex 32 (.t 30) 2,
      .mv 12 (.t 32)])
    (.q (.o [.mv 13 (.c (.i .i64 (-1)))])
    (.q (.q (.o [.mv 33 (.t 12)])
    (.b 2 (.q (.o [.bn 35 .eql (.t 33) (.c (.i .i32 49)),
      .mv 34 (.t 35)])
    (.i (.t 34) (.o [.mv 13 (.c (.i .i64 1))])
    (.q (.o [.bn 37 .eql (.t 33) (.c (.i .i32 50)),
      .mv 36 (.t 37)])
    (.i (.t 36) (.o [.mv 13 (.c (.i .i64 2))])
    (.q (.q (.o [.bn 39 .eql (.t 33) (.c (.i .i32 52)),
      .mv 38 (.t 39)])
    (.i (.t 38) (.k)
    (.q (.o [.bn 40 .eql (.t 33) (.c (.i .i32 103)),
      .mv 38 (.t 40)])
    (.i (.t 38) (.k)
    (.o [.bn 41 .eql (.t 33) (.c (.i .i32 113)),
      .mv 38 (.t 41)])))))
    (.i (.t 38) (.o [.mv 13 (.c (.i .i64 4))])
    (.q (.o [.bn 43 .eql (.t 33) (.c (.i .i32 110)),
      .mv 42 (.t 43)])
    (.i (.t 42) (.q (.o [.mv 44 (.t 10),
      .cv (some 45) (.t 44) [],
      .cl (some 46) 120 [(.t 45)],
      .mv 13 (.t 46)])
    (.q (.q (.o [.mv 47 (.t 13),
      .bn 48 .eql (.t 47) (.c (.i .i64 0))])
    (.i (.t 48) (.q (.o [.mv 4 (.c .ns),
      .mv 5 (.c (.b false))])
    (.r))
    (.k)))
    (.o [.mv 49 (.t 8),
      .ld 50 (.t 9) none,
      .ld 51 (.t 9) none,
      .mv 52 (.t 13),
      .bn 53 .add (.t 51) (.t 52),
      .bd 54 [(.i .i64 0), (.i .i64 0)] [(0, 1, (.t 50)), (1, 1, (.t 53))],
      .lbs 55 (.ag [(.i .i64 0), (.i .i64 0)]) 2 1 [(0, (.t 54))],
      .ap 56 (.t 49) (.t 55) 2 16,
      .mv 8 (.t 56)])))
    (.q (.q (.o [.bn 58 .eql (.t 33) (.c (.i .i32 116)),
      .mv 57 (.t 58)])
    (.i (.t 57) (.k)
    (.o [.bn 59 .eql (.t 33) (.c (.i .i32 99)),
      .mv 57 (.t 59)])))
    (.i (.t 57) (.q (.q (.o [.ld 60 (.t 9) none,
      .ld 61 (.t 3) none,
      .lns 62 (.t 61),
      .bn 63 .geq (.t 60) (.t 62)])
    (.i (.t 63) (.q (.o [.mv 4 (.c .ns),
      .mv 5 (.c (.b false))])
    (.r))
    (.k)))
    (.q (.o [.ld 64 (.t 3) none,
      .ld 65 (.t 9) none,
      .ix 66 (.t 64) (.t 65),
      .ci 67 .i64 (.t 66),
      .bn 68 .add (.c (.i .i64 1)) (.t 67),
      .mv 13 (.t 68)])
    (.q (.o [.mv 69 (.t 12),
      .bn 70 .eql (.t 69) (.c (.i .i32 99))])
    (.i (.t 70) (.q (.q (.o [.mv 71 (.t 13),
      .bn 72 .lss (.t 71) (.c (.i .i64 2)),
      .mv 73 (.t 72),
      .gd 73 false (.mv 74 (.t 13)),
      .gd 73 false (.bn 75 .gtr (.t 74) (.c (.i .i64 16))),
      .pk 76 (.t 73) (.c (.b true)) (.t 75),
      .mv 77 (.t 76),
      .gd 77 false (.ld 78 (.t 9) none),
      .gd 77 false (.mv 79 (.t 13)),
      .gd 77 false (.bn 80 .add (.t 78) (.t 79)),
      .gd 77 false (.ld 81 (.t 3) none),
      .gd 77 false (.lns 82 (.t 81)),
      .gd 77 false (.bn 83 .gtr (.t 80) (.t 82)),
      .pk 84 (.t 77) (.c (.b true)) (.t 83)])
    (.i (.t 84) (.q (.o [.mv 4 (.c .ns),
      .mv 5 (.c (.b false))])
    (.r))
    (.k)))
    (.q (.o [.ld 85 (.t 3) none,
      .ld 86 (.t 9) none,
      .bn 87 .add (.t 86) (.c (.i .i64 1)),
      .ld 88 (.t 9) none,
      .mv 89 (.t 13),
      .bn 90 .add (.t 88) (.t 89),
      .ss 91 (.t 85) (some (.t 87)) (some (.t 90)),
      .csb 92 (.t 91),
      .ln 93 (.t 92),
      .mv 94 (.c (.i .i64 0))])
    (.b 3 (.l [3, 8, 9, 10, 13, 29, 92, 93, 94] (.q (.o [.bn 95 .lss (.t 94) (.t 93)])
    (.q (.i (.t 95) (.k)
    (.x 3))
    (.q (.b 4 (.q (.o [.ia 96 (.t 92) (.t 94) 1,
      .ld 97 (.t 96) none,
      .mv 15 (.t 97)])
    (.q (.o [.mv 98 (.t 15),
      .bn 99 .geq (.t 98) (.c (.i .u8 48)),
      .mv 100 (.t 99),
      .gd 100 true (.mv 101 (.t 15)),
      .gd 100 true (.bn 102 .leq (.t 101) (.c (.i .u8 57))),
      .pk 103 (.t 100) (.t 102) (.c (.b false)),
      .mv 104 (.t 103),
      .gd 104 false (.mv 105 (.t 15)),
      .gd 104 false (.bn 106 .geq (.t 105) (.c (.i .u8 97))),
      .gd 104 false (.mv 107 (.t 106)),
      .gd 107 true (.mv 108 (.t 15)),
      .gd 107 true (.bn 109 .leq (.t 108) (.c (.i .u8 122))),
      .gd 104 false (.pk 110 (.t 107) (.t 109) (.c (.b false))),
      .pk 111 (.t 104) (.c (.b true)) (.t 110),
      .mv 112 (.t 111),
      .gd 112 false (.mv 113 (.t 15)),
      .gd 112 false (.bn 114 .geq (.t 113) (.c (.i .u8 65))),
      .gd 112 false (.mv 115 (.t 114)),
      .gd 115 true (.mv 116 (.t 15)),
      .gd 115 true (.bn 117 .leq (.t 116) (.c (.i .u8 90))),
      .gd 112 false (.pk 118 (.t 115) (.t 117) (.c (.b false))),
      .pk 119 (.t 112) (.c (.b true)) (.t 118),
      .un 120 .not (.t 119)])
    (.i (.t 120) (.q (.o [.mv 4 (.c .ns),
      .mv 5 (.c (.b false))])
    (.r))
    (.k)))))
    (.o [.bn 121 .add (.t 94) (.c (.i .i64 1)),
      .mv 94 (.t 121)]))))))))
    (.k)))))
    (.q (.o [.bn 123 .eql (.t 33) (.c (.i .i32 84)),
      .mv 122 (.t 123)])
    (.i (.t 122) (.q (.o [.ld 124 (.t 9) none,
      .mv 16 (.t 124)])
    (.q (.b 5 (.l [3, 8, 9, 10, 16, 29] (.q (.q (.o [.mv 125 (.t 16),
      .ld 126 (.t 3) none,
      .lns 127 (.t 126),
      .bn 128 .lss (.t 125) (.t 127)])
    (.i (.t 128) (.k)
    (.x 5)))
    (.b 6 (.o [.mv 129 (.t 16),
      .ld 130 (.t 3) none,
      .mv 131 (.t 16),
      .ix 132 (.t 130) (.t 131),
      .ci 133 .i64 (.t 132),
      .bn 134 .add (.c (.i .i64 1)) (.t 133),
      .bn 135 .add (.t 129) (.t 134),
      .mv 16 (.t 135)])))))
    (.q (.o [.mv 136 (.t 16),
      .ld 137 (.t 9) none,
      .bn 138 .sub (.t 136) (.t 137),
      .mv 13 (.t 138)])
    (.q (.o [.mv 139 (.t 13),
      .bn 140 .eql (.t 139) (.c (.i .i64 0))])
    (.i (.t 140) (.q (.o [.mv 4 (.c .ns),
      .mv 5 (.c (.b false))])
    (.r))
    (.k))))))
    (.q (.o [.bn 142 .eql (.t 33) (.c (.i .i32 109)),
      .mv 141 (.t 142)])
    (.i (.t 141) (.q (.q (.o [.mv 144 (.t 10),
      .cv (some 145) (.t 144) [],
      .cl (some 146) 121 [(.t 145)],
      .mv 143 (.t 146),
      .ex 147 (.t 143) 0,
      .ex 148 (.t 143) 1,
      .mv 17 (.t 147),
      .mv 18 (.t 148)])
    (.q (.o [.mv 149 (.t 18),
      .bn 150 .neq (.t 149) (.c (.i .i64 0))])
    (.i (.t 150) (.q (.o [.mv 4 (.c .ns),
      .mv 5 (.c (.b false))])
    (.r))
    (.k))))
    (.o [.mv 151 (.t 10),
      .cv (some 152) (.t 151) [],
      .lns 153 (.t 152),
      .mv 13 (.t 153)]))
    (.q (.o [.bn 155 .eql (.t 33) (.c (.i .i32 42)),
      .mv 154 (.t 155)])
    (.i (.t 154) (.o [.mv 156 (.t 10),
      .cv (some 157) (.t 156) [],
      .lns 158 (.t 157),
      .mv 13 (.t 158)])
    (.k)))))))))))))))))))
    (.q (.q (.o [.ld 159 (.t 9) none,
      .mv 160 (.t 13),
      .bn 161 .add (.t 159) (.t 160),
      .ld 162 (.t 3) none,
      .lns 163 (.t 162),
      .bn 164 .gtr (.t 161) (.t 163)])
    (.i (.t 164) (.q (.o [.mv 4 (.c .ns),
      .mv 5 (.c (.b false))])
    (.r))
    (.k)))
    (.o [.ld 165 (.t 9) none,
      .mv 166 (.t 13),
      .bn 167 .add (.t 165) (.t 166),
      .st (.t 9) (.t 167) 1])))))))))))
    (.q (.p [⟨.mv 168 (.t 8), [], false⟩,
      ⟨.ld 169 (.t 9) none, [], false⟩,
      ⟨.ld 170 (.t 3) none, [], false⟩,
      ⟨.lns 171 (.t 170), [], false⟩,
      ⟨.bn 172 .eql (.t 169) (.t 171), [], false⟩,
      ⟨.mv 4 (.t 168), [], false⟩,
      ⟨.mv 5 (.t 172), [], false⟩])
    (.r))))))))⟩
abbrev n_impl_parsed : Nat := 98
theorem k_impl_parsed : chkF Go.Proofs.Tryd.prog c_impl_parsed 98 = true := by kernel_rfl
end Go.Vm
/- The writer of messages: its state, what is put. -/
namespace Go.Vm
set_option linter.unusedVariables false
set_option linter.unusedSimpArgs false
/-- What is written, and where the rest of a name was written first. -/
abbrev EncSt := List UInt8 × List (List UInt8 × Nat)
def encMp (es : List (List UInt8 × Nat)) : List (AV × AV) := es.map fun e => (.s e.1, .i .i64 (e.2 : Nat))
structure EncS (H : AH) (n0 pid : Nat) (s : EncSt) : Prop where
  ex : ∃ bv mid, Obj1 H pid [bv, .mp mid] ∧ Mb H bv s.1 ∧ mid < H.n ∧ H.at' mid = .map true (encMp s.2) ∧ ¬ pid ∈ idA bv ∧ mid ≠ pid ∧ ¬ mid ∈ idA bv ∧ n0 ≤ mid ∧ ∀ i, i ∈ idA bv → n0 ≤ i
  ge : n0 ≤ pid
/-- What lies below a bound is as it was. -/
structure Bl (n0 : Nat) (H H' : AH) : Prop where
  n : H.n ≤ H'.n
  at' : ∀ i, i < n0 → H'.at' i = H.at' i
theorem Bl.refl (n0 : Nat) (H : AH) : Bl n0 H H := ⟨Nat.le_refl _, fun _ _ => rfl⟩
theorem Bl.trans {n0 : Nat} {H H1 H2 : AH} (h : Bl n0 H H1) (h' : Bl n0 H1 H2) : Bl n0 H H2 := ⟨Nat.le_trans h.n h'.n, fun i hi => (h'.at' i hi).trans (h.at' i hi)⟩
theorem Bl.ext {n0 : Nat} {H0 H H' : AH} (h : Bl n0 H H') (he : Ext H0 H) (hn : H0.n ≤ n0) : Ext H0 H' := ⟨Nat.le_trans he.n h.n, fun i hi => (h.at' i (Nat.lt_of_lt_of_le hi hn)).trans (he.at' i hi)⟩
theorem EncS.ext {H H' : AH} {n0 pid : Nat} {s : EncSt} (h : EncS H n0 pid s) (he : Ext H H') : EncS H' n0 pid s := by
  obtain ⟨⟨bv, mid, h1, h2, h3, h4, h5⟩, h6⟩ := h
  exact ⟨⟨bv, mid, h1.ext he, Mn.ext h2 he, Nat.lt_of_lt_of_le h3 he.n, (he.at' _ h3).trans h4, h5⟩, h6⟩
theorem EncS.lt {H : AH} {n0 pid : Nat} {s : EncSt} (h : EncS H n0 pid s) : pid < H.n ∧ n0 ≤ H.n := by
  obtain ⟨⟨bv, mid, h1, -⟩, h6⟩ := h
  exact ⟨h1.lt, Nat.le_trans h6 (Nat.le_of_lt h1.lt)⟩
section
variable {C : Tab}
/-- Bytes appended to what is written: at any frame. -/
theorem EncS.ap {H : AH} {n0 pid : Nat} {s : EncSt} (h : EncS H n0 pid s) {y : AV} {t : List UInt8} (hl : s.1.length + t.length ≤ 1099511627776) : ∃ bv mid, Obj1 H pid [bv, .mp mid] ∧ Mb H bv s.1 ∧
    ∀ (L : List Lv) (g : Nat), (srcV ⟨L, g, H⟩ y = encB t ∧ srcC ⟨L, g, H⟩ 1 y) → apC ⟨L, g, H⟩ 1 1 y bv ∧ ∃ bv' H1, apV ⟨L, g, H⟩ y bv = bv' ∧ apM ⟨L, g, H⟩ 1 y bv = ⟨L, g, H1⟩ ∧ bv'.outs = true ∧ bv'.cells = [bv'] ∧
      (∀ (L : List Lv) (g : Nat), stC ⟨L, g, H1⟩ bv' (.pv pid 0)) ∧ ∃ H2, (∀ (L : List Lv) (g : Nat), stM ⟨L, g, H1⟩ bv' (.pv pid 0) = ⟨L, g, H2⟩) ∧ EncS H2 n0 pid (s.1 ++ t, s.2) ∧ Bl n0 H H2 := by
  obtain ⟨⟨bv, mid, h1, h2, h3, h4, h5, h6, h7, h8, h9⟩, hge⟩ := h
  refine ⟨bv, mid, h1, h2, fun L g hy => ?_⟩
  obtain ⟨p1, bv', H1, p2, p3, p4, p5, p6, p7, -⟩ := Mn.ap (by' := 1) h2 hy (by simp; omega)
  have hb : Mb H1 bv' (s.1 ++ t) := by unfold Mb; rw [enc_app]; exact p4
  have ob1 : Obj1 H1 pid [bv, .mp mid] := h1.fr p5 (p6 _ h1.lt h5)
  have hpid : ¬ pid ∈ idA bv' := fun hh => by
    rcases p7 _ hh with hh | hh
    · exact h5 hh
    · have := h1.lt; omega
  have hmid : ¬ mid ∈ idA bv' := fun hh => by
    rcases p7 _ hh with hh | hh
    · exact h7 hh
    · omega
  have hone := hb.sl.one
  obtain ⟨q1, H2, q2, q3, q4, q5⟩ := ob1.st (off := 0) (v := bv') (by simp) hone
  refine ⟨p1, bv', H1, p2, p3, hb.sl.out, hone, q1, H2, q2, ⟨⟨bv', mid, q3, Mn.fr hb (Nat.le_of_eq q4.symm) (fun i hi => q5 i fun hm => by simp only [List.mem_singleton] at hm; subst hm; exact hpid hi), by omega, ?_, hpid, h6, hmid, h8, fun i hi => ?_⟩, hge⟩, ⟨by omega, fun i hi => ?_⟩⟩
  · rw [q5 mid (by simpa using h6), p6 mid h3 h7]; exact h4
  · rcases p7 _ hi with hh | hh
    · exact h9 i hh
    · have := h1.lt; omega
  · rw [q5 i (by simp; omega), p6 i (by have := h1.lt; omega) fun hh => by have := h9 i hh; omega]
def hasP (t : Int) : Bool := decide (t = 2 ∨ t = 5 ∨ t = 12 ∨ t = 15 ∨ t = 6)
theorem r_hasPointers {t : Int} {H : AH} : Runs C c_impl_hasPointers [.i .i64 t] H fun v H' => H' = H ∧ v = .b (hasP t) := by
  unfold Runs c_impl_hasPointers hasP
  by_cases h1 : t = 2
  · subst h1; simp -implicitDefEqProofs only [bU, reduceIte, Nat.reduceEqDiff, reduceCtorEq, implies_true, forall_const, eq_self, Nat.reduceAdd, Nat.reduceLT, bne_self_eq_false, bT, eq_self, true_implies, false_implies, forall_const, if_true, if_false, Int.reduceToNat, Nat.reduceSub, Int.reduceLE, endK, rsC, rsV, resV]; simp
  by_cases h2 : t = 5
  · subst h2; simp -implicitDefEqProofs only [bU, reduceIte, Nat.reduceEqDiff, reduceCtorEq, implies_true, forall_const, eq_self, Nat.reduceAdd, Nat.reduceLT, bne_self_eq_false, bT, eq_self, true_implies, false_implies, forall_const, if_true, if_false, Int.reduceToNat, Nat.reduceSub, Int.reduceLE, Int.reduceEq, endK, rsC, rsV, resV]; simp
  by_cases h3 : t = 12
  · subst h3; simp -implicitDefEqProofs only [bU, reduceIte, Nat.reduceEqDiff, reduceCtorEq, implies_true, forall_const, eq_self, Nat.reduceAdd, Nat.reduceLT, bne_self_eq_false, bT, eq_self, true_implies, false_implies, forall_const, if_true, if_false, Int.reduceToNat, Nat.reduceSub, Int.reduceLE, Int.reduceEq, endK, rsC, rsV, resV]; simp
  by_cases h4 : t = 15
  · subst h4; simp -implicitDefEqProofs only [bU, reduceIte, Nat.reduceEqDiff, reduceCtorEq, implies_true, forall_const, eq_self, Nat.reduceAdd, Nat.reduceLT, bne_self_eq_false, bT, eq_self, true_implies, false_implies, forall_const, if_true, if_false, Int.reduceToNat, Nat.reduceSub, Int.reduceLE, Int.reduceEq, endK, rsC, rsV, resV]; simp
  by_cases h5 : t = 6
  · subst h5; simp -implicitDefEqProofs only [bU, reduceIte, Nat.reduceEqDiff, reduceCtorEq, implies_true, forall_const, eq_self, Nat.reduceAdd, Nat.reduceLT, bne_self_eq_false, bT, eq_self, true_implies, false_implies, forall_const, if_true, if_false, Int.reduceToNat, Nat.reduceSub, Int.reduceLE, Int.reduceEq, endK, rsC, rsV, resV]; simp
  simp -implicitDefEqProofs only [bU, reduceIte, Nat.reduceEqDiff, reduceCtorEq, implies_true, forall_const, eq_self, Nat.reduceAdd, Nat.reduceLT, bne_self_eq_false, bT, eq_self, true_implies, false_implies, forall_const, if_true, if_false, Int.reduceToNat, Nat.reduceSub, Int.reduceLE, h1, h2, h3, h4, h5, endK, rsC, rsV, resV]
  simp
end
end Go.Vm
/- The writer of messages: numbers, names that are names, data of types without a form. -/
namespace Go.Vm
set_option linter.unusedVariables false
set_option linter.unusedSimpArgs false
/-! Rows of bytes at their object. -/
theorem fdiv_nat (n k : Nat) : (n : Int).fdiv ((2 : Int) ^ k) = ((n / 2 ^ k : Nat) : Int) := by
  rw [Int.fdiv_eq_ediv_of_nonneg _ (Int.le_of_lt (Int.pow_pos (by decide)))]
  norm_cast
section
variable {C : Tab}
/-! Names. -/
def labGo (s : List UInt8) : Option (List (List UInt8)) := match s with
  | [] => none
  | n :: r => if n.toNat = 0 then (if r = [] then some [] else none) else
    if h : 63 < n.toNat ∨ r.length < n.toNat then none else (labGo (r.drop n.toNat)).map fun q => r.take n.toNat :: q
termination_by s.length
decreasing_by simp; omega
def nameL (s : List UInt8) : Option (List (List UInt8)) := if 255 < s.length then none else labGo s
def LabPost (r : Option (List (List UInt8))) (H : AH) (v : AV) (H' : AH) : Prop := Ext H H' ∧ match r with
  | none => ∃ o, v = .tp [o, .b false] ∧ o.outs = true
  | some ls => ∃ o, v = .tp [o, .b true] ∧ Mn H' 1 o (ls.map AV.s) ∧ ∀ i, i ∈ idA o → H.n ≤ i
theorem lit_srcS {t g : Nat} {x : List UInt8} {L : List Lv} {H : AH} : srcV ⟨⟨t, g, 0, [.s x]⟩ :: L, g + 1, H⟩ (.ll t g 1 1) = [AV.s x] ∧ srcC ⟨⟨t, g, 0, [.s x]⟩ :: L, g + 1, H⟩ 1 (.ll t g 1 1) := lit_src
end
end Go.Vm
/- The writer of messages: what is valid, a record, a message. -/
namespace Go.Vm
set_option linter.unusedVariables false
set_option linter.unusedSimpArgs false
/-- The program's table of forms. -/
def formsL : List (Int × List UInt8) := [(1, [52]), (2, [110]), (5, [110]), (6, [110, 110, 103, 103, 103, 103, 113]), (12, [110]), (13, [116, 116]), (15, [50, 110]), (16, [84]), (28, [103, 103, 103, 103]), (33, [50, 50, 50, 110]), (35, [50, 50, 116, 116, 116, 110]), (39, [110]), (47, [110, 109]), (257, [49, 99, 42])]
def formsEs : List (AV × AV) := formsL.map fun e => (.i .i64 e.1, .s e.2)
abbrev gForms : Nat := 1
structure FormsOK (H : AH) : Prop where
  ex : ∃ rw mid es, H.at' gForms = .arr rw 0 1 [.mp mid] ∧ H.at' mid = .map false es ∧ gForms < H.n ∧ mid < H.n ∧ (∀ e ∈ es, e.1.isCk (.i .i64) = true) ∧ ∀ t, mpFind es (.i .i64 t) = mpFind formsEs (.i .i64 t)
theorem FormsOK.ext {H H' : AH} (h : FormsOK H) (he : Ext H H') : FormsOK H' := by
  obtain ⟨rw, mid, es, h1, h2, h3, h4, h5⟩ := h
  exact ⟨rw, mid, es, (he.at' _ h3).trans h1, (he.at' _ h4).trans h2, Nat.lt_of_lt_of_le h3 he.n, Nat.lt_of_lt_of_le h4 he.n, h5⟩
section
variable {C : Tab}
/-! A record that may be written. -/
end
end Go.Vm
/- Data of records: their forms, what has a form. No program in sight. -/
namespace Go.Vm
set_option linter.unusedVariables false
set_option linter.unusedSimpArgs false
def nmGo : List UInt8 → Nat → Nat
  | [], _ => 0
  | c :: r, i => if c.toNat = 0 then (if 255 < i + 1 then 0 else i + 1) else if 63 < c.toNat then 0 else nmGo (r.drop c.toNat) (i + 1 + c.toNat)
termination_by l => l.length
decreasing_by simp; omega
/-- How many bytes the name has at the beginning; 0: there is none. -/
def nmAt (d : List UInt8) : Nat := nmGo d 0
theorem nmGo_nil (i : Nat) : nmGo [] i = 0 := by rw [nmGo]
theorem nmGo_at {s : List UInt8} {i : Nat} (hi : i < s.length) : nmGo (s.drop i) i = if (s.getD i 0).toNat = 0 then (if 255 < i + 1 then 0 else i + 1) else if 63 < (s.getD i 0).toNat then 0 else nmGo (s.drop (i + 1 + (s.getD i 0).toNat)) (i + 1 + (s.getD i 0).toNat) := by
  have e : s.getD i 0 = s[i] := by simp [List.getD, List.getElem?_eq_getElem hi]
  rw [List.drop_eq_getElem_cons hi, nmGo, e, List.drop_drop]
theorem nmGo_far : ∀ (n : Nat) (l : List UInt8) (i : Nat), l.length ≤ n → 255 ≤ i → nmGo l i = 0
  | n, [], i, _, _ => nmGo_nil i
  | 0, _ :: _, _, h, _ => by simp at h
  | n + 1, c :: r, i, h, hi => by
    rw [nmGo]
    by_cases h0 : c.toNat = 0
    · rw [if_pos h0, if_pos (by omega)]
    · rw [if_neg h0]
      by_cases h1 : 63 < c.toNat
      · rw [if_pos h1]
      · rw [if_neg h1]
        exact nmGo_far n _ _ (by simp at h ⊢; omega) (by omega)
theorem nmGo_le : ∀ (n : Nat) (l : List UInt8) (i : Nat), l.length ≤ n → nmGo l i ≤ i + l.length ∧ (nmGo l i ≠ 0 → i < nmGo l i)
  | n, [], i, _ => by simp [nmGo_nil]
  | 0, _ :: _, _, h => by simp at h
  | n + 1, c :: r, i, h => by
    rw [nmGo]
    simp only [List.length_cons] at h ⊢
    by_cases h0 : c.toNat = 0
    · rw [if_pos h0]
      split <;> omega
    · rw [if_neg h0]
      by_cases h1 : 63 < c.toNat
      · rw [if_pos h1]; omega
      · rw [if_neg h1]
        obtain ⟨g1, g2⟩ := nmGo_le n (r.drop c.toNat) (i + 1 + c.toNat) (by simp; omega)
        simp only [List.length_drop] at g1
        by_cases hz : nmGo (r.drop c.toNat) (i + 1 + c.toNat) = 0
        · rw [hz]; omega
        · have := g2 hz
          by_cases hc : c.toNat ≤ r.length
          · omega
          · rw [List.drop_of_length_le (by omega), nmGo_nil] at hz
            exact absurd rfl hz
theorem nmAt_le (d : List UInt8) : nmAt d ≤ d.length := by have := (nmGo_le _ d 0 (Nat.le_refl _)).1; unfold nmAt; omega
/-- Such bytes are a name. -/
theorem nmGo_lab : ∀ (n : Nat) (l : List UInt8) (i : Nat), l.length ≤ n → nmGo l i ≠ 0 → (labGo (l.take (nmGo l i - i))).isSome = true
  | n, [], i, _, h => absurd (nmGo_nil i) h
  | 0, _ :: _, _, h, _ => by simp at h
  | n + 1, c :: r, i, h, hne => by
    rw [nmGo] at hne ⊢
    by_cases h0 : c.toNat = 0
    · rw [if_pos h0] at hne ⊢
      by_cases h2 : 255 < i + 1
      · rw [if_pos h2] at hne; exact absurd rfl hne
      · rw [if_neg h2, Nat.add_sub_cancel_left, List.take_succ_cons, List.take_zero, labGo]
        simp [h0]
    · rw [if_neg h0] at hne ⊢
      by_cases h1 : 63 < c.toNat
      · rw [if_pos h1] at hne; exact absurd rfl hne
      · rw [if_neg h1] at hne ⊢
        simp only [List.length_cons] at h
        obtain ⟨g1, g2⟩ := nmGo_le n (r.drop c.toNat) (i + 1 + c.toNat) (by simp; omega)
        have g3 := g2 hne
        simp only [List.length_drop] at g1
        have hc : c.toNat ≤ r.length := by
          rcases Nat.lt_or_ge r.length c.toNat with hc | hc
          · rw [List.drop_of_length_le (by omega), nmGo_nil] at hne; exact absurd rfl hne
          · exact hc
        have ih := nmGo_lab n (r.drop c.toNat) (i + 1 + c.toNat) (by simp; omega) hne
        generalize nmGo (r.drop c.toNat) (i + 1 + c.toNat) = k at *
        have e : k - i = (c.toNat + (k - (i + 1 + c.toNat))) + 1 := by omega
        rw [e, List.take_succ_cons, labGo]
        have hl : (List.take (c.toNat + (k - (i + 1 + c.toNat))) r).length = c.toNat + (k - (i + 1 + c.toNat)) := by simp; omega
        simp only [h0, if_false]
        rw [dif_neg (by rw [hl]; omega)]
        have e2 : (List.take (c.toNat + (k - (i + 1 + c.toNat))) r).drop c.toNat = (r.drop c.toNat).take (k - (i + 1 + c.toNat)) := by
          rw [List.drop_take, Nat.add_sub_cancel_left]
        rw [e2]
        cases hh : labGo ((r.drop c.toNat).take (k - (i + 1 + c.toNat))) with
        | none => rw [hh] at ih; cases ih
        | some x => rfl
theorem nmAt_lab {d : List UInt8} (h : nmAt d ≠ 0) : (labGo (d.take (nmAt d))).isSome = true := nmGo_lab _ d 0 (Nat.le_refl _) h
/-- The short text at the beginning, with its length. -/
def txt (s : List UInt8) : List UInt8 := match s with
  | [] => []
  | c :: r => if r.length < c.toNat then [] else c :: r.take c.toNat
theorem txt_len (s : List UInt8) : (txt s).length ≤ s.length := by
  cases s with
  | nil => simp [txt]
  | cons c r => simp only [txt]; split <;> simp; omega
def txts (s : List UInt8) : List UInt8 := if h : txt s = [] then [] else txt s ++ txts (s.drop (txt s).length)
termination_by s.length
decreasing_by
  have h1 := List.length_pos_iff.2 h
  have h2 := txt_len s
  simp; omega
def alnum (c : UInt8) : Bool := (decide (48 ≤ c.toNat) && decide (c.toNat ≤ 57)) || (decide (97 ≤ c.toNat) && decide (c.toNat ≤ 122)) || (decide (65 ≤ c.toNat) && decide (c.toNat ≤ 90))
/-- A map of types. -/
def mapBad (w n : UInt8) (r : List UInt8) (last : Int) : Bool := decide ((w.toNat : Int) ≤ last) || decide (n.toNat < 1) || decide (32 < n.toNat) || decide (r.length < n.toNat) || decide ((r.getD (n.toNat - 1) 0).toNat = 0)
def mapOk (s : List UInt8) (last : Int) : Bool := match s with
  | [] => true
  | [_] => false
  | w :: n :: r => if mapBad w n r last then false else mapOk (r.drop n.toNat) w.toNat
termination_by s.length
decreasing_by simp; omega
def part (f : UInt8) (d : List UInt8) : Option (List UInt8) :=
  if f = 110 then (if nmAt d = 0 then none else some (d.take (nmAt d)))
  else if f = 98 then (if d = [] then none else some (d.take 1))
  else if f = 116 then (if txt d = [] then none else some (txt d))
  else if f = 115 then (if txts d = [] then none else some (txts d))
  else if f = 99 then (if 2 ≤ (txt d).length ∧ (txt d).length ≤ 16 ∧ ((txt d).drop 1).all alnum = true then some d else none)
  else if f = 109 then (if mapOk d (-1) then some d else none)
  else if f = 42 then some d else none
/-- Data cut by its form: letters and their parts. -/
def prs : List UInt8 → List UInt8 → Option (List (UInt8 × List UInt8))
  | [], d => if d = [] then some [] else none
  | f :: fs, d => match part f d with
    | none => none
    | some p => (prs fs (d.drop p.length)).map fun r => (f, p) :: r
def specForm (t : Int) : List UInt8 :=
  if t = 1 then [98, 98, 98, 98] else if t = 2 ∨ t = 5 ∨ t = 12 ∨ t = 39 then [110] else if t = 6 then [110, 110, 98, 98, 98, 98, 98, 98, 98, 98, 98, 98, 98, 98, 98, 98, 98, 98, 98, 98, 98, 98] else
  if t = 13 then [116, 116] else if t = 15 then [98, 98, 110] else if t = 16 then [115] else if t = 28 then [98, 98, 98, 98, 98, 98, 98, 98, 98, 98, 98, 98, 98, 98, 98, 98] else if t = 33 then [98, 98, 98, 98, 98, 98, 110] else
  if t = 35 then [98, 98, 98, 98, 116, 116, 116, 110] else if t = 47 then [110, 109] else if t = 257 then [98, 99] else [42]
/-- Has it the form of its type? -/
def chk (t : Int) (d : List UInt8) : Int := if t < 0 ∨ 65535 < t then 6 else if 65535 < d.length ∨ (prs (specForm t) d).isNone then 7 else 0
theorem txts_nil {s : List UInt8} (h : txt s = []) : txts s = [] := by rw [txts, dif_pos h]
theorem txts_cons {s : List UInt8} (h : txt s ≠ []) : txts s = txt s ++ txts (s.drop (txt s).length) := by rw [txts, dif_neg h]
theorem txts_len : ∀ (n : Nat) (s : List UInt8), s.length ≤ n → (txts s).length ≤ s.length
  | 0, s, h => by
    have : s = [] := List.eq_nil_of_length_eq_zero (by omega)
    subst this
    rw [txts_nil rfl]; simp
  | n + 1, s, h => by
    by_cases ht : txt s = []
    · rw [txts_nil ht]; simp
    · rw [txts_cons ht]
      have h1 := List.length_pos_iff.2 ht
      have h2 := txt_len s
      have := txts_len n (s.drop (txt s).length) (by simp; omega)
      simp only [List.length_append, List.length_drop] at this ⊢
      omega
theorem part_len {f : UInt8} {d p : List UInt8} (h : part f d = some p) : p.length ≤ d.length := by
  unfold part at h
  have a := nmAt_le d
  have b := txt_len d
  have c := txts_len _ d (Nat.le_refl _)
  repeat' split at h
  all_goals first | (cases h; done) | (injection h with h; subst h; simp; omega) | (injection h with h; subst h; exact b) | (injection h with h; subst h; exact c) | (injection h with h; subst h; exact Nat.le_refl _)
end Go.Vm
/- Functions' code as literals of the abstract machine, printed by wip/tools/lits.py; the kernel checks each against the translation. -/
namespace Go.Vm
set_option linter.unusedVariables false
set_option linter.unusedSimpArgs false
/-- loop.example/s01858/spec.l01Split -/
def c_spec_l01Split : Fn := ⟨1, [(.t 2), (.t 3)],
    .q (.o [.mv 2 (.c .ns),
      .mv 3 (.c (.b false))])
    (.q (.o [.bs 7 (.s []) 1 0 [],
      .mv 4 (.t 7)])
    (.q (.q (.o [.mv 8 (.t 0),
      .lns 9 (.t 8),
      .bn 10 .lss (.t 9) (.c (.i .i64 1)),
      .mv 11 (.t 10),
      .gd 11 false (.mv 12 (.t 0)),
      .gd 11 false (.lns 13 (.t 12)),
      .gd 11 false (.bn 14 .gtr (.t 13) (.c (.i .i64 255))),
      .pk 15 (.t 11) (.c (.b true)) (.t 14)])
    (.i (.t 15) (.q (.o [.mv 2 (.c .ns),
      .mv 3 (.c (.b false))])
    (.r))
    (.k)))
    (.q (.o [.mv 16 (.t 0),
      .mv 5 (.t 16)])
    (.q (.b 0 (.l [4, 5] (.q (.q (.o [.mv 17 (.t 5),
      .bn 18 .neq (.t 17) (.c (.s []))])
    (.i (.t 18) (.k)
    (.x 0)))
    (.b 1 (.q (.o [.mv 19 (.t 5),
      .ix 20 (.t 19) (.c (.i .i64 0)),
      .ci 21 .i64 (.t 20),
      .mv 6 (.t 21)])
    (.q (.q (.o [.mv 22 (.t 6),
      .bn 23 .eql (.t 22) (.c (.i .i64 0))])
    (.i (.t 23) (.q (.q (.o [.mv 24 (.t 5),
      .lns 25 (.t 24),
      .bn 26 .neq (.t 25) (.c (.i .i64 1))])
    (.i (.t 26) (.q (.o [.mv 2 (.c .ns),
      .mv 3 (.c (.b false))])
    (.r))
    (.k)))
    (.q (.o [.mv 27 (.t 4),
      .mv 2 (.t 27),
      .mv 3 (.c (.b true))])
    (.r)))
    (.k)))
    (.q (.q (.o [.mv 28 (.t 6),
      .bn 29 .gtr (.t 28) (.c (.i .i64 63)),
      .mv 30 (.t 29),
      .gd 30 false (.mv 31 (.t 5)),
      .gd 30 false (.lns 32 (.t 31)),
      .gd 30 false (.mv 33 (.t 6)),
      .gd 30 false (.bn 34 .add (.t 33) (.c (.i .i64 1))),
      .gd 30 false (.bn 35 .lss (.t 32) (.t 34)),
      .pk 36 (.t 30) (.c (.b true)) (.t 35)])
    (.i (.t 36) (.q (.o [.mv 2 (.c .ns),
      .mv 3 (.c (.b false))])
    (.r))
    (.k)))
    (.q (.o [.mv 37 (.t 4),
      .mv 38 (.t 5),
      .mv 39 (.t 6),
      .bn 40 .add (.t 39) (.c (.i .i64 1)),
      .ss 41 (.t 38) (some (.c (.i .i64 1))) (some (.t 40)),
      .lbs 42 (.s []) 1 1 [(0, (.t 41))],
      .ap 43 (.t 37) (.t 42) 1 16,
      .mv 4 (.t 43)])
    (.o [.mv 44 (.t 5),
      .mv 45 (.t 6),
      .bn 46 .add (.t 45) (.c (.i .i64 1)),
      .ss 47 (.t 44) (some (.t 46)) none,
      .mv 5 (.t 47)])))))))))
    (.q (.o [.mv 2 (.c .ns),
      .mv 3 (.c (.b false))])
    (.r))))))⟩
abbrev n_spec_l01Split : Nat := 99
theorem k_spec_l01Split : chkF Go.Proofs.Tryd.prog c_spec_l01Split 99 = true := by kernel_rfl
/-- loop.example/s01858/spec.l02NameAt -/
def c_spec_l02NameAt : Fn := ⟨1, [(.t 2)],
    .q (.o [.mv 2 (.c (.s []))])
    (.q (.o [.mv 3 (.c (.i .i64 0))])
    (.q (.b 0 (.l [0, 3] (.q (.q (.o [.mv 5 (.t 3),
      .mv 6 (.t 0),
      .lns 7 (.t 6),
      .bn 8 .lss (.t 5) (.t 7),
      .mv 9 (.t 8),
      .gd 9 true (.mv 10 (.t 3)),
      .gd 9 true (.bn 11 .lss (.t 10) (.c (.i .i64 255))),
      .pk 12 (.t 9) (.t 11) (.c (.b false))])
    (.i (.t 12) (.k)
    (.x 0)))
    (.b 1 (.q (.o [.mv 13 (.t 0),
      .mv 14 (.t 3),
      .ix 15 (.t 13) (.t 14),
      .ci 16 .i64 (.t 15),
      .mv 4 (.t 16)])
    (.q (.q (.o [.mv 17 (.t 4),
      .bn 18 .eql (.t 17) (.c (.i .i64 0))])
    (.i (.t 18) (.q (.o [.mv 19 (.t 0),
      .mv 20 (.t 3),
      .bn 21 .add (.t 20) (.c (.i .i64 1)),
      .ss 22 (.t 19) none (some (.t 21)),
      .mv 2 (.t 22)])
    (.r))
    (.k)))
    (.q (.q (.o [.mv 23 (.t 4),
      .bn 24 .gtr (.t 23) (.c (.i .i64 63))])
    (.i (.t 24) (.q (.o [.mv 2 (.c (.s []))])
    (.r))
    (.k)))
    (.o [.mv 25 (.t 3),
      .mv 26 (.t 4),
      .bn 27 .add (.t 25) (.t 26),
      .bn 28 .add (.t 27) (.c (.i .i64 1)),
      .mv 3 (.t 28)]))))))))
    (.q (.o [.mv 2 (.c (.s []))])
    (.r))))⟩
abbrev n_spec_l02NameAt : Nat := 107
theorem k_spec_l02NameAt : chkF Go.Proofs.Tryd.prog c_spec_l02NameAt 107 = true := by kernel_rfl
/-- loop.example/s01858/impl.parsed$1 -/
def c_impl_parsed_1 : Fn := ⟨2, [(.t 2)],
    .q (.o [.mv 2 (.c (.s []))])
    (.q (.o [.ld 3 (.t 0) none,
      .ld 4 (.t 1) none,
      .ss 5 (.t 3) (some (.t 4)) none,
      .mv 2 (.t 5)])
    (.r))⟩
abbrev n_impl_parsed_1 : Nat := 119
theorem k_impl_parsed_1 : chkF Go.Proofs.Tryd.prog c_impl_parsed_1 119 = true := by kernel_rfl
/-- loop.example/s01858/impl.nameAt -/
def c_impl_nameAt : Fn := ⟨1, [(.t 2)],
    .q (.o [.mv 2 (.c (.i .i64 0))])
    (.q (.q (.o [.mv 3 (.c (.i .i64 0))])
    (.b 0 (.l [0, 3] (.q (.q (.o [.mv 5 (.t 3),
      .mv 6 (.t 0),
      .lns 7 (.t 6),
      .bn 8 .lss (.t 5) (.t 7)])
    (.i (.t 8) (.k)
    (.x 0)))
    (.b 1 (.q (.o [.mv 9 (.t 0),
      .mv 10 (.t 3),
      .ix 11 (.t 9) (.t 10),
      .ci 12 .i64 (.t 11),
      .mv 4 (.t 12)])
    (.q (.q (.o [.mv 13 (.t 4),
      .bn 14 .eql (.t 13) (.c (.i .i64 0))])
    (.i (.t 14) (.q (.q (.o [.mv 15 (.t 3),
      .bn 16 .add (.t 15) (.c (.i .i64 1)),
      .bn 17 .gtr (.t 16) (.c (.i .i64 255))])
    (.i (.t 17) (.q (.o [.mv 2 (.c (.i .i64 0))])
    (.r))
    (.k)))
    (.q (.o [.mv 18 (.t 3),
      .bn 19 .add (.t 18) (.c (.i .i64 1)),
      .mv 2 (.t 19)])
    (.r)))
    (.k)))
    (.q (.q (.o [.mv 20 (.t 4),
      .bn 21 .gtr (.t 20) (.c (.i .i64 63))])
    (.i (.t 21) (.q (.o [.mv 2 (.c (.i .i64 0))])
    (.r))
    (.k)))
    (.o [.mv 22 (.t 3),
      .mv 23 (.t 4),
      .bn 24 .add (.c (.i .i64 1)) (.t 23),
      .bn 25 .add (.t 22) (.t 24),
      .mv 3 (.t 25)])))))))))
    (.q (.o [.mv 2 (.c (.i .i64 0))])
    (.r)))⟩
abbrev n_impl_nameAt : Nat := 120
theorem k_impl_nameAt : chkF Go.Proofs.Tryd.prog c_impl_nameAt 120 = true := by kernel_rfl
/-- loop.example/s01858/impl.MapTypes -/
def c_impl_MapTypes : Fn := ⟨1, [(.t 2), (.t 3)],
    .q (.o [.mv 2 (.c .ns),
      .mv 3 (.c (.i .i64 0))])
    (.q (.o [.mv 4 (.c .ns)])
    (.q (.o [.mv 5 (.c (.i .i64 (-1)))])
    (.q (.q (.o [.mv 6 (.c (.i .i64 0))])
    (.b 0 (.l [0, 4, 5, 6] (.q (.q (.o [.mv 11 (.t 6),
      .mv 12 (.t 0),
      .lns 13 (.t 12),
      .bn 14 .lss (.t 11) (.t 13)])
    (.i (.t 14) (.k)
    (.x 0)))
    (.b 1 (.q (.q (.o [.mv 15 (.t 6),
      .bn 16 .add (.t 15) (.c (.i .i64 2)),
      .mv 17 (.t 0),
      .lns 18 (.t 17),
      .bn 19 .gtr (.t 16) (.t 18)])
    (.i (.t 19) (.q (.o [.mv 2 (.c .ns),
      .mv 3 (.c (.i .i64 7))])
    (.r))
    (.k)))
    (.q (.p [⟨.mv 20 (.t 0), [], false⟩,
      ⟨.mv 21 (.t 6), [], false⟩,
      ⟨.ix 22 (.t 20) (.t 21), [], false⟩,
      ⟨.ci 23 .i64 (.t 22), [], false⟩,
      ⟨.mv 24 (.t 0), [], false⟩,
      ⟨.mv 25 (.t 6), [], false⟩,
      ⟨.bn 26 .add (.t 25) (.c (.i .i64 1)), [], false⟩,
      ⟨.ix 27 (.t 24) (.t 26), [], false⟩,
      ⟨.ci 28 .i64 (.t 27), [], false⟩,
      ⟨.mv 7 (.t 23), [], false⟩,
      ⟨.mv 8 (.t 28), [], false⟩])
    (.q (.q (.o [.mv 29 (.t 7),
      .mv 30 (.t 5),
      .bn 31 .leq (.t 29) (.t 30),
      .mv 32 (.t 31),
      .gd 32 false (.mv 33 (.t 8)),
      .gd 32 false (.bn 34 .lss (.t 33) (.c (.i .i64 1))),
      .pk 35 (.t 32) (.c (.b true)) (.t 34),
      .mv 36 (.t 35),
      .gd 36 false (.mv 37 (.t 8)),
      .gd 36 false (.bn 38 .gtr (.t 37) (.c (.i .i64 32))),
      .pk 39 (.t 36) (.c (.b true)) (.t 38),
      .mv 40 (.t 39),
      .gd 40 false (.mv 41 (.t 6)),
      .gd 40 false (.bn 42 .add (.t 41) (.c (.i .i64 2))),
      .gd 40 false (.mv 43 (.t 8)),
      .gd 40 false (.bn 44 .add (.t 42) (.t 43)),
      .gd 40 false (.mv 45 (.t 0)),
      .gd 40 false (.lns 46 (.t 45)),
      .gd 40 false (.bn 47 .gtr (.t 44) (.t 46)),
      .pk 48 (.t 40) (.c (.b true)) (.t 47),
      .mv 49 (.t 48),
      .gd 49 false (.mv 50 (.t 0)),
      .gd 49 false (.mv 51 (.t 6)),
      .gd 49 false (.bn 52 .add (.t 51) (.c (.i .i64 1))),
      .gd 49 false (.mv 53 (.t 8)),
      .gd 49 false (.bn 54 .add (.t 52) (.t 53)),
      .gd 49 false (.ix 55 (.t 50) (.t 54)),
      .gd 49 false (.bn 56 .eql (.t 55) (.c (.i .u8 0))),
      .pk 57 (.t 49) (.c (.b true)) (.t 56)])
    (.i (.t 57) (.q (.o [.mv 2 (.c .ns),
      .mv 3 (.c (.i .i64 7))])
    (.r))
    (.k)))
    (.q (.o [.mv 58 (.t 7),
      .mv 5 (.t 58)])
    (.q (.q (.o [.mv 9 (.c (.i .i64 0))])
    (.b 2 (.l [0, 4, 5, 6, 7, 8, 9] (.q (.q (.o [.mv 59 (.t 9),
      .mv 60 (.t 8),
      .bn 61 .lss (.t 59) (.t 60)])
    (.i (.t 61) (.k)
    (.x 2)))
    (.q (.b 3 (.q (.o [.mv 10 (.c (.i .i64 0))])
    (.b 4 (.l [0, 4, 5, 6, 7, 8, 9, 10] (.q (.q (.o [.mv 64 (.t 10),
      .bn 65 .lss (.t 64) (.c (.i .i64 8))])
    (.i (.t 65) (.k)
    (.x 4)))
    (.q (.b 5 (.q (.o [.mv 68 (.t 0),
      .mv 69 (.t 6),
      .bn 70 .add (.t 69) (.c (.i .i64 2)),
      .mv 71 (.t 9),
      .bn 72 .add (.t 70) (.t 71),
      .ix 73 (.t 68) (.t 72),
      .mv 74 (.t 10),
      .bn 75 .sub (.c (.i .i64 7)) (.t 74),
      .bn 76 .shr (.t 73) (.t 75),
      .bn 77 .and (.t 76) (.c (.i .u8 1)),
      .bn 78 .eql (.t 77) (.c (.i .u8 1))])
    (.i (.t 78) (.o [.mv 79 (.t 4),
      .mv 80 (.t 7),
      .bn 81 .mul (.c (.i .i64 256)) (.t 80),
      .mv 82 (.t 9),
      .bn 83 .mul (.c (.i .i64 8)) (.t 82),
      .bn 84 .add (.t 81) (.t 83),
      .mv 85 (.t 10),
      .bn 86 .add (.t 84) (.t 85),
      .lbs 87 (.i .i64 0) 1 1 [(0, (.t 86))],
      .ap 88 (.t 79) (.t 87) 1 8,
      .mv 4 (.t 88)])
    (.k))))
    (.o [.mv 66 (.t 10),
      .bn 67 .add (.t 66) (.c (.i .i64 1)),
      .mv 10 (.t 67)])))))))
    (.o [.mv 62 (.t 9),
      .bn 63 .add (.t 62) (.c (.i .i64 1)),
      .mv 9 (.t 63)]))))))
    (.o [.mv 89 (.t 6),
      .mv 90 (.t 8),
      .bn 91 .add (.c (.i .i64 2)) (.t 90),
      .bn 92 .add (.t 89) (.t 91),
      .mv 6 (.t 92)])))))))))))
    (.q (.o [.mv 93 (.t 4),
      .mv 2 (.t 93),
      .mv 3 (.c (.i .i64 0))])
    (.r)))))⟩
abbrev n_impl_MapTypes : Nat := 121
theorem k_impl_MapTypes : chkF Go.Proofs.Tryd.prog c_impl_MapTypes 121 = true := by kernel_rfl
/-- loop.example/s01858/spec.CheckData -/
def c_spec_CheckData : Fn := ⟨2, [(.t 4)],
    .q (.o [.mv 4 (.c (.i .i64 0))])
    (.q (.q (.o [.mv 7 (.t 0),
      .bn 8 .lss (.t 7) (.c (.i .i64 0)),
      .mv 9 (.t 8),
      .gd 9 false (.mv 10 (.t 0)),
      .gd 9 false (.bn 11 .gtr (.t 10) (.c (.i .i64 65535))),
      .pk 12 (.t 9) (.c (.b true)) (.t 11)])
    (.i (.t 12) (.q (.o [.mv 4 (.c (.i .i64 6))])
    (.r))
    (.k)))
    (.q (.q (.o [.mv 13 (.t 1),
      .lns 14 (.t 13),
      .bn 15 .gtr (.t 14) (.c (.i .i64 65535))])
    (.i (.t 15) (.q (.o [.mv 4 (.c (.i .i64 7))])
    (.r))
    (.k)))
    (.q (.o [.mv 17 (.t 0),
      .cl (some 18) 126 [(.t 17)],
      .mv 19 (.t 1),
      .cl (some 20) 127 [(.t 18), (.t 19)],
      .mv 16 (.t 20),
      .ex 21 (.t 16) 0,
      .ex 22 (.t 16) 1,
      .mv 5 (.t 21),
      .mv 6 (.t 22)])
    (.q (.q (.o [.mv 23 (.t 6),
      .un 24 .not (.t 23)])
    (.i (.t 24) (.q (.o [.mv 4 (.c (.i .i64 7))])
    (.r))
    (.k)))
    (.q (.o [.mv 4 (.c (.i .i64 0))])
    (.r))))))⟩
abbrev n_spec_CheckData : Nat := 122
theorem k_spec_CheckData : chkF Go.Proofs.Tryd.prog c_spec_CheckData 122 = true := by kernel_rfl
/-- loop.example/s01858/spec.l02Form -/
def c_spec_l02Form : Fn := ⟨1, [(.t 2)],
    .q (.o [.mv 2 (.c (.s []))])
    (.q (.q (.o [.mv 3 (.t 0)])
    (.b 0 (.q (.o [.bn 5 .eql (.t 3) (.c (.i .i64 1)),
      .mv 4 (.t 5)])
    (.i (.t 4) (.q (.o [.mv 2 (.c (.s [98, 98, 98, 98]))])
    (.r))
    (.q (.q (.o [.bn 7 .eql (.t 3) (.c (.i .i64 2)),
      .mv 6 (.t 7)])
    (.i (.t 6) (.k)
    (.q (.o [.bn 8 .eql (.t 3) (.c (.i .i64 5)),
      .mv 6 (.t 8)])
    (.i (.t 6) (.k)
    (.q (.o [.bn 9 .eql (.t 3) (.c (.i .i64 12)),
      .mv 6 (.t 9)])
    (.i (.t 6) (.k)
    (.o [.bn 10 .eql (.t 3) (.c (.i .i64 39)),
      .mv 6 (.t 10)])))))))
    (.i (.t 6) (.q (.o [.mv 2 (.c (.s [110]))])
    (.r))
    (.q (.o [.bn 12 .eql (.t 3) (.c (.i .i64 6)),
      .mv 11 (.t 12)])
    (.i (.t 11) (.q (.o [.mv 2 (.c (.s [110, 110, 98, 98, 98, 98, 98, 98, 98, 98, 98, 98, 98, 98, 98, 98, 98, 98, 98, 98, 98, 98]))])
    (.r))
    (.q (.o [.bn 14 .eql (.t 3) (.c (.i .i64 13)),
      .mv 13 (.t 14)])
    (.i (.t 13) (.q (.o [.mv 2 (.c (.s [116, 116]))])
    (.r))
    (.q (.o [.bn 16 .eql (.t 3) (.c (.i .i64 15)),
      .mv 15 (.t 16)])
    (.i (.t 15) (.q (.o [.mv 2 (.c (.s [98, 98, 110]))])
    (.r))
    (.q (.o [.bn 18 .eql (.t 3) (.c (.i .i64 16)),
      .mv 17 (.t 18)])
    (.i (.t 17) (.q (.o [.mv 2 (.c (.s [115]))])
    (.r))
    (.q (.o [.bn 20 .eql (.t 3) (.c (.i .i64 28)),
      .mv 19 (.t 20)])
    (.i (.t 19) (.q (.o [.mv 2 (.c (.s [98, 98, 98, 98, 98, 98, 98, 98, 98, 98, 98, 98, 98, 98, 98, 98]))])
    (.r))
    (.q (.o [.bn 22 .eql (.t 3) (.c (.i .i64 33)),
      .mv 21 (.t 22)])
    (.i (.t 21) (.q (.o [.mv 2 (.c (.s [98, 98, 98, 98, 98, 98, 110]))])
    (.r))
    (.q (.o [.bn 24 .eql (.t 3) (.c (.i .i64 35)),
      .mv 23 (.t 24)])
    (.i (.t 23) (.q (.o [.mv 2 (.c (.s [98, 98, 98, 98, 116, 116, 116, 110]))])
    (.r))
    (.q (.o [.bn 26 .eql (.t 3) (.c (.i .i64 47)),
      .mv 25 (.t 26)])
    (.i (.t 25) (.q (.o [.mv 2 (.c (.s [110, 109]))])
    (.r))
    (.q (.o [.bn 28 .eql (.t 3) (.c (.i .i64 257)),
      .mv 27 (.t 28)])
    (.i (.t 27) (.q (.o [.mv 2 (.c (.s [98, 99]))])
    (.r))
    (.k)))))))))))))))))))))))))
    (.q (.o [.mv 2 (.c (.s [42]))])
    (.r)))⟩
abbrev n_spec_l02Form : Nat := 126
theorem k_spec_l02Form : chkF Go.Proofs.Tryd.prog c_spec_l02Form 126 = true := by kernel_rfl
/-- loop.example/s01858/spec.l02Parts -/
def c_spec_l02Parts : Fn := ⟨2, [(.t 4), (.t 5)],
    .q (.o [.mv 4 (.c .ns),
      .mv 5 (.c (.b false))])
    (.q (.o [.bs 10 (.s []) 1 0 [],
      .mv 6 (.t 10)])
    (.q (.q (.o [.mv 7 (.c (.i .i64 0))])
    (.b 0 (.l [0, 1, 6, 7] (.q (.q (.o [.mv 11 (.t 7),
      .mv 12 (.t 0),
      .lns 13 (.t 12),
      .bn 14 .lss (.t 11) (.t 13)])
    (.i (.t 14) (.k)
    (.x 0)))
    (.q (.b 1 (.q (.o [.mv 8 (.c (.s []))])
    (.q (.q (.o [.mv 17 (.t 0),
      .mv 18 (.t 7),
      .ix 19 (.t 17) (.t 18)])
    (.b 2 (.q (.o [.bn 21 .eql (.t 19) (.c (.i .u8 110)),
      .mv 20 (.t 21)])
    (.i (.t 20) (.o [.mv 22 (.t 1),
      .cl (some 23) 107 [(.t 22)],
      .mv 8 (.t 23)])
    (.q (.o [.bn 25 .eql (.t 19) (.c (.i .u8 98)),
      .mv 24 (.t 25)])
    (.i (.t 24) (.q (.o [.mv 26 (.t 1),
      .bn 27 .neq (.t 26) (.c (.s []))])
    (.i (.t 27) (.o [.mv 28 (.t 1),
      .ss 29 (.t 28) none (some (.c (.i .i64 1))),
      .mv 8 (.t 29)])
    (.k)))
    (.q (.o [.bn 31 .eql (.t 19) (.c (.i .u8 116)),
      .mv 30 (.t 31)])
    (.i (.t 30) (.o [.mv 32 (.t 1),
      .cl (some 33) 140 [(.t 32)],
      .mv 8 (.t 33)])
    (.q (.o [.bn 35 .eql (.t 19) (.c (.i .u8 115)),
      .mv 34 (.t 35)])
    (.i (.t 34) (.b 3 (.l [0, 1, 6, 7, 8] (.q (.q (.o [.mv 36 (.t 1),
      .mv 37 (.t 8),
      .lns 38 (.t 37),
      .ss 39 (.t 36) (some (.t 38)) none,
      .cl (some 40) 140 [(.t 39)],
      .bn 41 .neq (.t 40) (.c (.s []))])
    (.i (.t 41) (.k)
    (.x 3)))
    (.b 4 (.o [.mv 42 (.t 8),
      .mv 43 (.t 1),
      .mv 44 (.t 8),
      .lns 45 (.t 44),
      .ss 46 (.t 43) (some (.t 45)) none,
      .cl (some 47) 140 [(.t 46)],
      .bn 48 .add (.t 42) (.t 47),
      .mv 8 (.t 48)])))))
    (.q (.o [.bn 50 .eql (.t 19) (.c (.i .u8 99)),
      .mv 49 (.t 50)])
    (.i (.t 49) (.q (.o [.mv 51 (.t 1),
      .cl (some 52) 140 [(.t 51)],
      .mv 8 (.t 52)])
    (.q (.q (.o [.mv 53 (.t 8),
      .lns 54 (.t 53),
      .bn 55 .lss (.t 54) (.c (.i .i64 2)),
      .mv 56 (.t 55),
      .gd 56 false (.mv 57 (.t 8)),
      .gd 56 false (.lns 58 (.t 57)),
      .gd 56 false (.bn 59 .gtr (.t 58) (.c (.i .i64 16))),
      .pk 60 (.t 56) (.c (.b true)) (.t 59)])
    (.i (.t 60) (.q (.o [.mv 4 (.c .ns),
      .mv 5 (.c (.b false))])
    (.r))
    (.k)))
    (.q (.q (.o [.mv 9 (.c (.i .i64 1))])
    (.b 5 (.l [0, 1, 6, 7, 8, 9] (.q (.q (.o [.mv 61 (.t 9),
      .mv 62 (.t 8),
      .lns 63 (.t 62),
      .bn 64 .lss (.t 61) (.t 63)])
    (.i (.t 64) (.k)
    (.x 5)))
    (.q (.b 6 (.q (.o [.mv 67 (.t 8),
      .mv 68 (.t 9),
      .ix 69 (.t 67) (.t 68),
      .cl (some 70) 141 [(.t 69)],
      .un 71 .not (.t 70)])
    (.i (.t 71) (.q (.o [.mv 4 (.c .ns),
      .mv 5 (.c (.b false))])
    (.r))
    (.k))))
    (.o [.mv 65 (.t 9),
      .bn 66 .add (.t 65) (.c (.i .i64 1)),
      .mv 9 (.t 66)]))))))
    (.o [.mv 72 (.t 1),
      .mv 8 (.t 72)]))))
    (.q (.o [.bn 74 .eql (.t 19) (.c (.i .u8 109)),
      .mv 73 (.t 74)])
    (.i (.t 73) (.q (.q (.o [.mv 75 (.t 1),
      .cl (some 76) 142 [(.t 75)],
      .un 77 .not (.t 76)])
    (.i (.t 77) (.q (.o [.mv 4 (.c .ns),
      .mv 5 (.c (.b false))])
    (.r))
    (.k)))
    (.o [.mv 78 (.t 1),
      .mv 8 (.t 78)]))
    (.q (.o [.bn 80 .eql (.t 19) (.c (.i .u8 42)),
      .mv 79 (.t 80)])
    (.i (.t 79) (.o [.mv 81 (.t 1),
      .mv 8 (.t 81)])
    (.k)))))))))))))))))
    (.q (.q (.o [.mv 82 (.t 8),
      .bn 83 .eql (.t 82) (.c (.s [])),
      .mv 84 (.t 83),
      .gd 84 true (.mv 85 (.t 0)),
      .gd 84 true (.mv 86 (.t 7)),
      .gd 84 true (.ix 87 (.t 85) (.t 86)),
      .gd 84 true (.bn 88 .neq (.t 87) (.c (.i .u8 109))),
      .pk 89 (.t 84) (.t 88) (.c (.b false)),
      .mv 90 (.t 89),
      .gd 90 true (.mv 91 (.t 0)),
      .gd 90 true (.mv 92 (.t 7)),
      .gd 90 true (.ix 93 (.t 91) (.t 92)),
      .gd 90 true (.bn 94 .neq (.t 93) (.c (.i .u8 42))),
      .pk 95 (.t 90) (.t 94) (.c (.b false))])
    (.i (.t 95) (.q (.o [.mv 4 (.c .ns),
      .mv 5 (.c (.b false))])
    (.r))
    (.k)))
    (.q (.o [.mv 96 (.t 6),
      .mv 97 (.t 8),
      .lbs 98 (.s []) 1 1 [(0, (.t 97))],
      .ap 99 (.t 96) (.t 98) 1 16,
      .mv 6 (.t 99)])
    (.o [.mv 100 (.t 1),
      .mv 101 (.t 8),
      .lns 102 (.t 101),
      .ss 103 (.t 100) (some (.t 102)) none,
      .mv 1 (.t 103)]))))))
    (.o [.mv 15 (.t 7),
      .bn 16 .add (.t 15) (.c (.i .i64 1)),
      .mv 7 (.t 16)]))))))
    (.q (.o [.mv 104 (.t 6),
      .mv 105 (.t 1),
      .bn 106 .eql (.t 105) (.c (.s [])),
      .mv 4 (.t 104),
      .mv 5 (.t 106)])
    (.r))))⟩
abbrev n_spec_l02Parts : Nat := 127
theorem k_spec_l02Parts : chkF Go.Proofs.Tryd.prog c_spec_l02Parts 127 = true := by kernel_rfl
/-- loop.example/s01858/spec.l02Text -/
def c_spec_l02Text : Fn := ⟨1, [(.t 2)],
    .q (.o [.mv 2 (.c (.s []))])
    (.q (.q (.o [.mv 3 (.t 0),
      .bn 4 .eql (.t 3) (.c (.s [])),
      .mv 5 (.t 4),
      .gd 5 false (.mv 6 (.t 0)),
      .gd 5 false (.lns 7 (.t 6)),
      .gd 5 false (.mv 8 (.t 0)),
      .gd 5 false (.ix 9 (.t 8) (.c (.i .i64 0))),
      .gd 5 false (.ci 10 .i64 (.t 9)),
      .gd 5 false (.bn 11 .add (.t 10) (.c (.i .i64 1))),
      .gd 5 false (.bn 12 .lss (.t 7) (.t 11)),
      .pk 13 (.t 5) (.c (.b true)) (.t 12)])
    (.i (.t 13) (.q (.o [.mv 2 (.c (.s []))])
    (.r))
    (.k)))
    (.q (.o [.mv 14 (.t 0),
      .mv 15 (.t 0),
      .ix 16 (.t 15) (.c (.i .i64 0)),
      .ci 17 .i64 (.t 16),
      .bn 18 .add (.t 17) (.c (.i .i64 1)),
      .ss 19 (.t 14) none (some (.t 18)),
      .mv 2 (.t 19)])
    (.r)))⟩
abbrev n_spec_l02Text : Nat := 140
theorem k_spec_l02Text : chkF Go.Proofs.Tryd.prog c_spec_l02Text 140 = true := by kernel_rfl
/-- loop.example/s01858/spec.l02Alnum -/
def c_spec_l02Alnum : Fn := ⟨1, [(.t 2)],
    .q (.o [.mv 2 (.c (.b false))])
    (.q (.o [.mv 3 (.t 0),
      .bn 4 .geq (.t 3) (.c (.i .u8 48)),
      .mv 5 (.t 4),
      .gd 5 true (.mv 6 (.t 0)),
      .gd 5 true (.bn 7 .leq (.t 6) (.c (.i .u8 57))),
      .pk 8 (.t 5) (.t 7) (.c (.b false)),
      .mv 9 (.t 8),
      .gd 9 false (.mv 10 (.t 0)),
      .gd 9 false (.bn 11 .geq (.t 10) (.c (.i .u8 97))),
      .gd 9 false (.mv 12 (.t 11)),
      .gd 12 true (.mv 13 (.t 0)),
      .gd 12 true (.bn 14 .leq (.t 13) (.c (.i .u8 122))),
      .gd 9 false (.pk 15 (.t 12) (.t 14) (.c (.b false))),
      .pk 16 (.t 9) (.c (.b true)) (.t 15),
      .mv 17 (.t 16),
      .gd 17 false (.mv 18 (.t 0)),
      .gd 17 false (.bn 19 .geq (.t 18) (.c (.i .u8 65))),
      .gd 17 false (.mv 20 (.t 19)),
      .gd 20 true (.mv 21 (.t 0)),
      .gd 20 true (.bn 22 .leq (.t 21) (.c (.i .u8 90))),
      .gd 17 false (.pk 23 (.t 20) (.t 22) (.c (.b false))),
      .pk 24 (.t 17) (.c (.b true)) (.t 23),
      .mv 2 (.t 24)])
    (.r))⟩
abbrev n_spec_l02Alnum : Nat := 141
theorem k_spec_l02Alnum : chkF Go.Proofs.Tryd.prog c_spec_l02Alnum 141 = true := by kernel_rfl
/-- loop.example/s01858/spec.l02Map -/
def c_spec_l02Map : Fn := ⟨1, [(.t 2)],
    .q (.o [.mv 2 (.c (.b false))])
    (.q (.o [.mv 3 (.c (.i .i64 (-1)))])
    (.q (.b 0 (.l [0, 3] (.q (.q (.o [.mv 6 (.t 0),
      .bn 7 .neq (.t 6) (.c (.s []))])
    (.i (.t 7) (.k)
    (.x 0)))
    (.b 1 (.q (.q (.o [.mv 8 (.t 0),
      .lns 9 (.t 8),
      .bn 10 .lss (.t 9) (.c (.i .i64 2))])
    (.i (.t 10) (.q (.o [.mv 2 (.c (.b false))])
    (.r))
    (.k)))
    (.q (.o [.mv 11 (.t 0),
      .ix 12 (.t 11) (.c (.i .i64 0)),
      .ci 13 .i64 (.t 12),
      .mv 4 (.t 13)])
    (.q (.o [.mv 14 (.t 0),
      .ix 15 (.t 14) (.c (.i .i64 1)),
      .ci 16 .i64 (.t 15),
      .mv 5 (.t 16)])
    (.q (.q (.o [.mv 17 (.t 4),
      .mv 18 (.t 3),
      .bn 19 .leq (.t 17) (.t 18),
      .mv 20 (.t 19),
      .gd 20 false (.mv 21 (.t 5)),
      .gd 20 false (.bn 22 .lss (.t 21) (.c (.i .i64 1))),
      .pk 23 (.t 20) (.c (.b true)) (.t 22),
      .mv 24 (.t 23),
      .gd 24 false (.mv 25 (.t 5)),
      .gd 24 false (.bn 26 .gtr (.t 25) (.c (.i .i64 32))),
      .pk 27 (.t 24) (.c (.b true)) (.t 26),
      .mv 28 (.t 27),
      .gd 28 false (.mv 29 (.t 0)),
      .gd 28 false (.lns 30 (.t 29)),
      .gd 28 false (.mv 31 (.t 5)),
      .gd 28 false (.bn 32 .add (.t 31) (.c (.i .i64 2))),
      .gd 28 false (.bn 33 .lss (.t 30) (.t 32)),
      .pk 34 (.t 28) (.c (.b true)) (.t 33),
      .mv 35 (.t 34),
      .gd 35 false (.mv 36 (.t 0)),
      .gd 35 false (.mv 37 (.t 5)),
      .gd 35 false (.bn 38 .add (.t 37) (.c (.i .i64 1))),
      .gd 35 false (.ix 39 (.t 36) (.t 38)),
      .gd 35 false (.bn 40 .eql (.t 39) (.c (.i .u8 0))),
      .pk 41 (.t 35) (.c (.b true)) (.t 40)])
    (.i (.t 41) (.q (.o [.mv 2 (.c (.b false))])
    (.r))
    (.k)))
    (.q (.o [.mv 42 (.t 4),
      .mv 3 (.t 42)])
    (.o [.mv 43 (.t 0),
      .mv 44 (.t 5),
      .bn 45 .add (.t 44) (.c (.i .i64 2)),
      .ss 46 (.t 43) (some (.t 45)) none,
      .mv 0 (.t 46)]))))))))))
    (.q (.o [.mv 2 (.c (.b true))])
    (.r))))⟩
abbrev n_spec_l02Map : Nat := 142
theorem k_spec_l02Map : chkF Go.Proofs.Tryd.prog c_spec_l02Map 142 = true := by kernel_rfl
end Go.Vm
/- Data of records: the runs of what looks at names, texts, maps, forms. -/
namespace Go.Vm
set_option linter.unusedVariables false
set_option linter.unusedSimpArgs false
theorem i64b (b : UInt8) : IntKind.i64.wrap (b.toNat : Int) = (b.toNat : Int) := by have := b.toNat_lt; exact w64 (by omega) (by omega)
theorem getD_drop (s : List UInt8) (i k : Nat) : (s.drop i).getD k 0 = s.getD (i + k) 0 := by simp [List.getD, List.getElem?_drop]
theorem mapOk_at {s : List UInt8} {last : Int} (h : 2 ≤ s.length) : mapOk s last = if ((s.getD 0 0).toNat : Int) ≤ last ∨ (s.getD 1 0).toNat < 1 ∨ 32 < (s.getD 1 0).toNat ∨ s.length < (s.getD 1 0).toNat + 2 ∨ (s.getD ((s.getD 1 0).toNat + 1) 0).toNat = 0 then false else mapOk (s.drop ((s.getD 1 0).toNat + 2)) (s.getD 0 0).toNat := by
  match s, h with
  | w :: n :: r, _ =>
    rw [mapOk]
    simp only [List.getD_cons_zero, List.getD_cons_succ, List.length_cons, mapBad]
    by_cases hn : n.toNat < 1
    · simp [hn]
    · obtain ⟨k, hk⟩ : ∃ k, n.toNat = k + 1 := ⟨n.toNat - 1, by omega⟩
      simp only [hk, Nat.add_sub_cancel, List.getD_cons_succ, show k + 1 + 2 = (k + 1) + 1 + 1 from rfl, List.drop_succ_cons]
      congr 1
      simp only [Bool.or_eq_true, decide_eq_true_eq, eq_iff_iff]
      omega
theorem mapOk_short {s : List UInt8} {last : Int} (h : s.length < 2) : mapOk s last = decide (s = []) := by
  match s, h with
  | [], _ => rw [mapOk]; rfl
  | [x], _ => rw [mapOk]; simp
def T_alnum (C : Tab) (f : Nat) : Prop := ∀ (c : UInt8) (H : AH), C f [.i .u8 c.toNat] H = some (.b (alnum c), H)
def T_txt (C : Tab) (f : Nat) : Prop := ∀ (s : List UInt8) (H : AH), s.length ≤ 1099511627776 → C f [.s s] H = some (.s (txt s), H)
def T_nmS (C : Tab) (f : Nat) : Prop := ∀ (s : List UInt8) (H : AH), s.length ≤ 1099511627776 → C f [.s s] H = some (.s (s.take (nmAt s)), H)
def T_map (C : Tab) (f : Nat) : Prop := ∀ (s : List UInt8) (H : AH), s.length ≤ 1099511627776 → C f [.s s] H = some (.b (mapOk s (-1)), H)
def T_form (C : Tab) (f : Nat) : Prop := ∀ (t : Int) (H : AH), C f [.i .i64 t] H = some (.s (specForm t), H)
def T_nmI (C : Tab) (f : Nat) : Prop := ∀ (s : List UInt8) (H : AH), s.length ≤ 1099511627776 → C f [.s s] H = some (.i .i64 (nmAt s : Nat), H)
theorem txt_bad {s : List UInt8} (h : s = [] ∨ s.length < (s.getD 0 0).toNat + 1) : txt s = [] := by
  cases s with
  | nil => rfl
  | cons c r =>
    simp only [List.getD_cons_zero, List.length_cons] at h
    simp only [txt]
    rw [if_pos (by simp at h; omega)]
theorem txt_ok {s : List UInt8} (h : s ≠ []) (h2 : ¬ s.length < (s.getD 0 0).toNat + 1) : txt s = s.take ((s.getD 0 0).toNat + 1) := by
  cases s with
  | nil => exact absurd rfl h
  | cons c r =>
    simp only [List.getD_cons_zero, List.length_cons] at h2 ⊢
    simp only [txt, List.take_succ_cons]
    rw [if_neg (by omega)]
section
variable {C : Tab}
set_option maxHeartbeats 1000000 in
theorem r_alnum {c : UInt8} {H : AH} : Runs C c_spec_l02Alnum [.i .u8 c.toNat] H fun v H' => H' = H ∧ v = .b (alnum c) := by
  unfold Runs c_spec_l02Alnum
  have e : alnum c = ((decide ((48 : Int) ≤ c.toNat) && decide ((c.toNat : Int) ≤ 57)) || (decide ((97 : Int) ≤ c.toNat) && decide ((c.toNat : Int) ≤ 122)) || (decide ((65 : Int) ≤ c.toNat) && decide ((c.toNat : Int) ≤ 90))) := by
    unfold alnum
    rw [Bool.eq_iff_iff]
    simp only [Bool.or_eq_true, Bool.and_eq_true, decide_eq_true_eq]
    omega
  rw [e]
  by_cases h1 : (48 : Int) ≤ c.toNat <;> by_cases h2 : (c.toNat : Int) ≤ 57 <;> by_cases h3 : (97 : Int) ≤ c.toNat <;> by_cases h4 : (c.toNat : Int) ≤ 122 <;> by_cases h5 : (65 : Int) ≤ c.toNat <;> by_cases h6 : (c.toNat : Int) ≤ 90 <;>
  first
  | (exfalso; omega)
  | simp -implicitDefEqProofs only [bU, reduceIte, Nat.reduceEqDiff, reduceCtorEq, implies_true, forall_const, eq_self, Nat.reduceAdd, Nat.reduceLT, bne_self_eq_false, bT, eq_self, true_implies, false_implies, forall_const, if_true, if_false, Int.reduceToNat, Nat.reduceSub, Int.reduceLE, h1, h2, h3, h4, h5, h6, Bool.false_and, Bool.and_false, Bool.or_false, Bool.or_true, Bool.false_or, Bool.true_or, endK, rsC, rsV, resV]
theorem r_txt {s : List UInt8} {H : AH} (hs : s.length ≤ 1099511627776) : Runs C c_spec_l02Text [.s s] H fun v H' => H' = H ∧ v = .s (txt s) := by
  unfold Runs c_spec_l02Text
  by_cases h0 : s = []
  · rw [txt_bad (.inl h0)]
    have h0' : (s = []) = True := eq_true h0
    simp -implicitDefEqProofs only [bU, reduceIte, Nat.reduceEqDiff, reduceCtorEq, implies_true, forall_const, eq_self, Nat.reduceAdd, Nat.reduceLT, bne_self_eq_false, bT, eq_self, true_implies, false_implies, forall_const, if_true, if_false, Int.reduceToNat, Nat.reduceSub, Int.reduceLE, h0', endK, rsC, rsV, resV]
  · have hl := List.length_pos_iff.2 h0
    have hp : (0 : Int) < s.length := by omega
    have hb := (s.getD 0 0).toNat_lt
    have w0 := i64b (s.getD 0 0)
    have w1 : IntKind.i64.wrap (((s.getD 0 0).toNat : Int) + 1) = (((s.getD 0 0).toNat + 1 : Nat) : Int) := by rw [w64 (by omega) (by omega)]; rfl
    have z : (0 : Int) ≤ (((s.getD 0 0).toNat + 1 : Nat) : Int) := by omega
    by_cases h1 : (s.length : Int) < (((s.getD 0 0).toNat + 1 : Nat) : Int)
    · rw [txt_bad (.inr (by omega))]
      simp -implicitDefEqProofs only [bU, reduceIte, Nat.reduceEqDiff, reduceCtorEq, implies_true, forall_const, eq_self, Nat.reduceAdd, Nat.reduceLT, bne_self_eq_false, bT, eq_self, true_implies, false_implies, forall_const, if_true, if_false, Int.reduceToNat, Nat.reduceSub, Int.reduceLE, h0, hp, w0, w1, h1, endK, rsC, rsV, resV]
    · rw [txt_ok h0 (by omega)]
      have h2 : (((s.getD 0 0).toNat + 1 : Nat) : Int) ≤ s.length := by omega
      simp -implicitDefEqProofs only [bU, reduceIte, Nat.reduceEqDiff, reduceCtorEq, implies_true, forall_const, eq_self, Nat.reduceAdd, Nat.reduceLT, bne_self_eq_false, bT, eq_self, true_implies, false_implies, forall_const, if_true, if_false, Int.reduceToNat, Nat.reduceSub, Int.reduceLE, h0, hp, w0, w1, h1, h2, z, toNat_nat, endK, rsC, rsV, resV]
theorem r_nmS {s : List UInt8} {H : AH} (hs : s.length ≤ 1099511627776) : Runs C c_spec_l02NameAt [.s s] H fun v H' => H' = H ∧ v = .s (s.take (nmAt s)) := by
  unfold Runs c_spec_l02NameAt
  simp -implicitDefEqProofs only [bU, reduceIte, Nat.reduceEqDiff, reduceCtorEq, implies_true, forall_const, eq_self, Nat.reduceAdd, Nat.reduceLT, bne_self_eq_false, bT, eq_self, true_implies, false_implies, forall_const, if_true, if_false, Int.reduceToNat, Nat.reduceSub, Int.reduceLE]
  refine exec_loop (fun n e M => ∃ (i : Nat), i ≤ s.length + 64 ∧ n = s.length + 64 - i ∧ look e 0 = .s s ∧ look e 3 = .i .i64 i ∧ (∃ L g, M = ⟨L, g, H⟩) ∧ nmAt s = nmGo (s.drop i) i) ?_ (n := s.length + 64) ⟨0, by omega, by omega, rfl, rfl, ⟨_, _, rfl⟩, rfl⟩
  rintro n e M ⟨i, hi, rfl, q0, q3, ⟨L, g, rfl⟩, hn⟩
  by_cases h1 : (i : Int) < s.length
  · have hil : i < s.length := by omega
    by_cases h2 : (i : Int) < 255
    · have hp : (0 : Int) ≤ i := by omega
      have hb := (s.getD i 0).toNat_lt
      have w0 := i64b (s.getD i 0)
      have w1 : IntKind.i64.wrap ((i : Int) + 1) = ((i + 1 : Nat) : Int) := by rw [w64 (by omega) (by omega)]; rfl
      rw [nmGo_at hil] at hn
      by_cases h3 : (s.getD i 0).toNat = 0
      · rw [if_pos h3, if_neg (by omega)] at hn
        have h3' : (((s.getD i 0).toNat : Int) = 0) = True := eq_true (by omega)
        have z1 : (0 : Int) ≤ ((i + 1 : Nat) : Int) := by omega
        have z2 : ((i + 1 : Nat) : Int) ≤ s.length := by omega
        simp -implicitDefEqProofs only [bU, reduceIte, Nat.reduceEqDiff, reduceCtorEq, implies_true, forall_const, eq_self, Nat.reduceAdd, Nat.reduceLT, bne_self_eq_false, bT, eq_self, true_implies, false_implies, forall_const, if_true, if_false, Int.reduceToNat, Nat.reduceSub, Int.reduceLE, q0, q3, h1, h2, hp, w0, w1, toNat_nat, h3', z1, z2, hn, List.take_zero, endK, rsC, rsV, resV]
      · rw [if_neg h3] at hn
        have h3' : ¬ ((s.getD i 0).toNat : Int) = 0 := by omega
        by_cases h4 : 63 < (s.getD i 0).toNat
        · rw [if_pos h4] at hn
          have h4' : (63 : Int) < (s.getD i 0).toNat := by omega
          simp -implicitDefEqProofs only [bU, reduceIte, Nat.reduceEqDiff, reduceCtorEq, implies_true, forall_const, eq_self, Nat.reduceAdd, Nat.reduceLT, bne_self_eq_false, bT, eq_self, true_implies, false_implies, forall_const, if_true, if_false, Int.reduceToNat, Nat.reduceSub, Int.reduceLE, q0, q3, h1, h2, hp, w0, w1, toNat_nat, h3', h4', hn, List.take_zero, endK, rsC, rsV, resV]
        · rw [if_neg h4] at hn
          have h4' : ¬ (63 : Int) < (s.getD i 0).toNat := by omega
          have w2 : IntKind.i64.wrap ((i : Int) + ((s.getD i 0).toNat : Int)) = ((i + (s.getD i 0).toNat : Nat) : Int) := by rw [w64 (by omega) (by omega)]; omega
          have w3 : IntKind.i64.wrap (((i + (s.getD i 0).toNat : Nat) : Int) + 1) = ((i + 1 + (s.getD i 0).toNat : Nat) : Int) := by rw [w64 (by omega) (by omega)]; omega
          simp -implicitDefEqProofs only [bU, reduceIte, Nat.reduceEqDiff, reduceCtorEq, implies_true, forall_const, eq_self, Nat.reduceAdd, Nat.reduceLT, bne_self_eq_false, bT, eq_self, true_implies, false_implies, forall_const, if_true, if_false, Int.reduceToNat, Nat.reduceSub, Int.reduceLE, q0, q3, h1, h2, hp, w0, w2, w3, toNat_nat, h3', h4']
          exact ⟨s.length + 64 - (i + 1 + (s.getD i 0).toNat), by omega, i + 1 + (s.getD i 0).toNat, by omega, rfl, rfl, ⟨_, _, rfl⟩, hn⟩
    · rw [nmGo_far _ _ _ (Nat.le_refl _) (by omega)] at hn
      simp -implicitDefEqProofs only [bU, reduceIte, Nat.reduceEqDiff, reduceCtorEq, implies_true, forall_const, eq_self, Nat.reduceAdd, Nat.reduceLT, bne_self_eq_false, bT, eq_self, true_implies, false_implies, forall_const, if_true, if_false, Int.reduceToNat, Nat.reduceSub, Int.reduceLE, q0, q3, h1, h2, hn, List.take_zero, endK, rsC, rsV, resV]
  · rw [List.drop_of_length_le (by omega), nmGo_nil] at hn
    simp -implicitDefEqProofs only [bU, reduceIte, Nat.reduceEqDiff, reduceCtorEq, implies_true, forall_const, eq_self, Nat.reduceAdd, Nat.reduceLT, bne_self_eq_false, bT, eq_self, true_implies, false_implies, forall_const, if_true, if_false, Int.reduceToNat, Nat.reduceSub, Int.reduceLE, q0, q3, h1, hn, List.take_zero, endK, rsC, rsV, resV]
theorem r_nmI {s : List UInt8} {H : AH} (hs : s.length ≤ 1099511627776) : Runs C c_impl_nameAt [.s s] H fun v H' => H' = H ∧ v = .i .i64 (nmAt s : Nat) := by
  unfold Runs c_impl_nameAt
  simp -implicitDefEqProofs only [bU, reduceIte, Nat.reduceEqDiff, reduceCtorEq, implies_true, forall_const, eq_self, Nat.reduceAdd, Nat.reduceLT, bne_self_eq_false, bT, eq_self, true_implies, false_implies, forall_const, if_true, if_false, Int.reduceToNat, Nat.reduceSub, Int.reduceLE]
  refine exec_loop (fun n e M => ∃ (i : Nat), i ≤ s.length + 64 ∧ n = s.length + 64 - i ∧ look e 0 = .s s ∧ look e 3 = .i .i64 i ∧ (∃ L g, M = ⟨L, g, H⟩) ∧ nmAt s = nmGo (s.drop i) i) ?_ (n := s.length + 64) ⟨0, by omega, by omega, rfl, rfl, ⟨_, _, rfl⟩, rfl⟩
  rintro n e M ⟨i, hi, rfl, q0, q3, ⟨L, g, rfl⟩, hn⟩
  have z0 : ((0 : Nat) : Int) = 0 := rfl
  by_cases h1 : (i : Int) < s.length
  · have hil : i < s.length := by omega
    have hp : (0 : Int) ≤ i := by omega
    have hb := (s.getD i 0).toNat_lt
    have w0 := i64b (s.getD i 0)
    have w1 : IntKind.i64.wrap ((i : Int) + 1) = ((i + 1 : Nat) : Int) := by rw [w64 (by omega) (by omega)]; rfl
    rw [nmGo_at hil] at hn
    by_cases h3 : (s.getD i 0).toNat = 0
    · rw [if_pos h3] at hn
      have h3' : (((s.getD i 0).toNat : Int) = 0) = True := eq_true (by omega)
      by_cases h5 : 255 < i + 1
      · rw [if_pos h5] at hn
        have h5' : (255 : Int) < ((i + 1 : Nat) : Int) := by omega
        simp -implicitDefEqProofs only [bU, reduceIte, Nat.reduceEqDiff, reduceCtorEq, implies_true, forall_const, eq_self, Nat.reduceAdd, Nat.reduceLT, bne_self_eq_false, bT, eq_self, true_implies, false_implies, forall_const, if_true, if_false, Int.reduceToNat, Nat.reduceSub, Int.reduceLE, q0, q3, h1, hp, w0, w1, toNat_nat, h3', h5', hn, z0, endK, rsC, rsV, resV]
      · rw [if_neg h5] at hn
        have h5' : ¬ (255 : Int) < ((i + 1 : Nat) : Int) := by omega
        simp -implicitDefEqProofs only [bU, reduceIte, Nat.reduceEqDiff, reduceCtorEq, implies_true, forall_const, eq_self, Nat.reduceAdd, Nat.reduceLT, bne_self_eq_false, bT, eq_self, true_implies, false_implies, forall_const, if_true, if_false, Int.reduceToNat, Nat.reduceSub, Int.reduceLE, q0, q3, h1, hp, w0, w1, toNat_nat, h3', h5', hn, endK, rsC, rsV, resV]
    · rw [if_neg h3] at hn
      have h3' : ¬ ((s.getD i 0).toNat : Int) = 0 := by omega
      by_cases h4 : 63 < (s.getD i 0).toNat
      · rw [if_pos h4] at hn
        have h4' : (63 : Int) < (s.getD i 0).toNat := by omega
        simp -implicitDefEqProofs only [bU, reduceIte, Nat.reduceEqDiff, reduceCtorEq, implies_true, forall_const, eq_self, Nat.reduceAdd, Nat.reduceLT, bne_self_eq_false, bT, eq_self, true_implies, false_implies, forall_const, if_true, if_false, Int.reduceToNat, Nat.reduceSub, Int.reduceLE, q0, q3, h1, hp, w0, w1, toNat_nat, h3', h4', hn, z0, endK, rsC, rsV, resV]
      · rw [if_neg h4] at hn
        have h4' : ¬ (63 : Int) < (s.getD i 0).toNat := by omega
        have w2 : IntKind.i64.wrap (1 + ((s.getD i 0).toNat : Int)) = ((1 + (s.getD i 0).toNat : Nat) : Int) := by rw [w64 (by omega) (by omega)]; omega
        have w3 : IntKind.i64.wrap ((i : Int) + ((1 + (s.getD i 0).toNat : Nat) : Int)) = ((i + 1 + (s.getD i 0).toNat : Nat) : Int) := by rw [w64 (by omega) (by omega)]; omega
        simp -implicitDefEqProofs only [bU, reduceIte, Nat.reduceEqDiff, reduceCtorEq, implies_true, forall_const, eq_self, Nat.reduceAdd, Nat.reduceLT, bne_self_eq_false, bT, eq_self, true_implies, false_implies, forall_const, if_true, if_false, Int.reduceToNat, Nat.reduceSub, Int.reduceLE, q0, q3, h1, hp, w0, w2, w3, toNat_nat, h3', h4']
        exact ⟨s.length + 64 - (i + 1 + (s.getD i 0).toNat), by omega, i + 1 + (s.getD i 0).toNat, by omega, rfl, rfl, ⟨_, _, rfl⟩, hn⟩
  · rw [List.drop_of_length_le (by omega), nmGo_nil] at hn
    simp -implicitDefEqProofs only [bU, reduceIte, Nat.reduceEqDiff, reduceCtorEq, implies_true, forall_const, eq_self, Nat.reduceAdd, Nat.reduceLT, bne_self_eq_false, bT, eq_self, true_implies, false_implies, forall_const, if_true, if_false, Int.reduceToNat, Nat.reduceSub, Int.reduceLE, q0, q3, h1, hn, z0, endK, rsC, rsV, resV]
theorem r_map {s0 : List UInt8} {H : AH} (hs : s0.length ≤ 1099511627776) : Runs C c_spec_l02Map [.s s0] H fun v H' => H' = H ∧ v = .b (mapOk s0 (-1)) := by
  unfold Runs c_spec_l02Map
  simp -implicitDefEqProofs only [bU, reduceIte, Nat.reduceEqDiff, reduceCtorEq, implies_true, forall_const, eq_self, Nat.reduceAdd, Nat.reduceLT, bne_self_eq_false, bT, eq_self, true_implies, false_implies, forall_const, if_true, if_false, Int.reduceToNat, Nat.reduceSub, Int.reduceLE]
  refine exec_loop (fun n e M => ∃ (s : List UInt8) (last : Int), s.length ≤ s0.length ∧ n = s.length ∧ look e 0 = .s s ∧ look e 3 = .i .i64 last ∧ (∃ L g, M = ⟨L, g, H⟩) ∧ mapOk s0 (-1) = mapOk s last) ?_ (n := s0.length) ⟨s0, -1, by omega, by omega, rfl, rfl, ⟨_, _, rfl⟩, rfl⟩
  rintro n e M ⟨s, last, hi, rfl, q0, q3, ⟨L, g, rfl⟩, hn⟩
  by_cases h0 : s = []
  · have h0' : (s = []) = True := eq_true h0
    rw [h0, show mapOk [] last = true by rw [mapOk]] at hn
    simp -implicitDefEqProofs only [bU, reduceIte, Nat.reduceEqDiff, reduceCtorEq, implies_true, forall_const, eq_self, Nat.reduceAdd, Nat.reduceLT, bne_self_eq_false, bT, eq_self, true_implies, false_implies, forall_const, if_true, if_false, Int.reduceToNat, Nat.reduceSub, Int.reduceLE, q0, q3, h0', hn, endK, rsC, rsV, resV]
  by_cases h1 : (s.length : Int) < 2
  · rw [mapOk_short (s := s) (last := last) (by omega), decide_eq_false h0] at hn
    simp -implicitDefEqProofs only [bU, reduceIte, Nat.reduceEqDiff, reduceCtorEq, implies_true, forall_const, eq_self, Nat.reduceAdd, Nat.reduceLT, bne_self_eq_false, bT, eq_self, true_implies, false_implies, forall_const, if_true, if_false, Int.reduceToNat, Nat.reduceSub, Int.reduceLE, q0, q3, h0, h1, hn, endK, rsC, rsV, resV]
  rw [mapOk_at (s := s) (last := last) (by omega)] at hn
  have p0 : (0 : Int) < s.length := by omega
  have p1 : (1 : Int) < s.length := by omega
  have w0 := i64b (s.getD 0 0)
  have w1 := i64b (s.getD 1 0)
  have hb := (s.getD 1 0).toNat_lt
  have w2 : IntKind.i64.wrap (((s.getD 1 0).toNat : Int) + 2) = (((s.getD 1 0).toNat + 2 : Nat) : Int) := by rw [w64 (by omega) (by omega)]; rfl
  have w3 : IntKind.i64.wrap (((s.getD 1 0).toNat : Int) + 1) = (((s.getD 1 0).toNat + 1 : Nat) : Int) := by rw [w64 (by omega) (by omega)]; rfl
  by_cases a1 : ((s.getD 0 0).toNat : Int) ≤ last
  · rw [if_pos (.inl a1)] at hn
    simp -implicitDefEqProofs only [bU, reduceIte, Nat.reduceEqDiff, reduceCtorEq, implies_true, forall_const, eq_self, Nat.reduceAdd, Nat.reduceLT, bne_self_eq_false, bT, eq_self, true_implies, false_implies, forall_const, if_true, if_false, Int.reduceToNat, Nat.reduceSub, Int.reduceLE, q0, q3, h0, h1, p0, p1, w0, w1, a1, hn, endK, rsC, rsV, resV]
  by_cases a2 : ((s.getD 1 0).toNat : Int) < 1
  · rw [if_pos (.inr (.inl (by omega)))] at hn
    simp -implicitDefEqProofs only [bU, reduceIte, Nat.reduceEqDiff, reduceCtorEq, implies_true, forall_const, eq_self, Nat.reduceAdd, Nat.reduceLT, bne_self_eq_false, bT, eq_self, true_implies, false_implies, forall_const, if_true, if_false, Int.reduceToNat, Nat.reduceSub, Int.reduceLE, q0, q3, h0, h1, p0, p1, w0, w1, a1, a2, hn, endK, rsC, rsV, resV]
  by_cases a3 : (32 : Int) < ((s.getD 1 0).toNat : Int)
  · rw [if_pos (.inr (.inr (.inl (by omega))))] at hn
    simp -implicitDefEqProofs only [bU, reduceIte, Nat.reduceEqDiff, reduceCtorEq, implies_true, forall_const, eq_self, Nat.reduceAdd, Nat.reduceLT, bne_self_eq_false, bT, eq_self, true_implies, false_implies, forall_const, if_true, if_false, Int.reduceToNat, Nat.reduceSub, Int.reduceLE, q0, q3, h0, h1, p0, p1, w0, w1, a1, a2, a3, hn, endK, rsC, rsV, resV]
  by_cases a4 : (s.length : Int) < (((s.getD 1 0).toNat + 2 : Nat) : Int)
  · rw [if_pos (.inr (.inr (.inr (.inl (by omega)))))] at hn
    simp -implicitDefEqProofs only [bU, reduceIte, Nat.reduceEqDiff, reduceCtorEq, implies_true, forall_const, eq_self, Nat.reduceAdd, Nat.reduceLT, bne_self_eq_false, bT, eq_self, true_implies, false_implies, forall_const, if_true, if_false, Int.reduceToNat, Nat.reduceSub, Int.reduceLE, q0, q3, h0, h1, p0, p1, w0, w1, w2, a1, a2, a3, a4, hn, endK, rsC, rsV, resV]
  have p2 : (0 : Int) ≤ (((s.getD 1 0).toNat + 1 : Nat) : Int) := by omega
  have p3 : (((s.getD 1 0).toNat + 1 : Nat) : Int) < s.length := by omega
  by_cases a5 : ((s.getD ((s.getD 1 0).toNat + 1) 0).toNat : Int) = 0
  · rw [if_pos (.inr (.inr (.inr (.inr (by omega)))))] at hn
    have a5' : (((s.getD ((s.getD 1 0).toNat + 1) 0).toNat : Int) = 0) = True := eq_true a5
    simp -implicitDefEqProofs only [bU, reduceIte, Nat.reduceEqDiff, reduceCtorEq, implies_true, forall_const, eq_self, Nat.reduceAdd, Nat.reduceLT, bne_self_eq_false, bT, eq_self, true_implies, false_implies, forall_const, if_true, if_false, Int.reduceToNat, Nat.reduceSub, Int.reduceLE, q0, q3, h0, h1, p0, p1, p2, p3, w0, w1, w2, w3, toNat_nat, a1, a2, a3, a4, a5', hn, endK, rsC, rsV, resV]
  rw [if_neg (by omega)] at hn
  have p4 : (0 : Int) ≤ (((s.getD 1 0).toNat + 2 : Nat) : Int) := by omega
  have p5 : (((s.getD 1 0).toNat + 2 : Nat) : Int) ≤ s.length := by omega
  have e : (s.drop ((s.getD 1 0).toNat + 2)).take (s.length - ((s.getD 1 0).toNat + 2)) = s.drop ((s.getD 1 0).toNat + 2) := List.take_of_length_le (by simp)
  have hll : (s.drop ((s.getD 1 0).toNat + 2)).length < s.length := by simp; omega
  simp -implicitDefEqProofs only [bU, reduceIte, Nat.reduceEqDiff, reduceCtorEq, implies_true, forall_const, eq_self, Nat.reduceAdd, Nat.reduceLT, bne_self_eq_false, bT, eq_self, true_implies, false_implies, forall_const, if_true, if_false, Int.reduceToNat, Nat.reduceSub, Int.reduceLE, q0, q3, h0, h1, p0, p1, p2, p3, p4, p5, w0, w1, w2, w3, toNat_nat, a1, a2, a3, a4, a5, e, Int.le_refl]
  exact ⟨_, hll, s.drop ((s.getD 1 0).toNat + 2), _, by omega, rfl, rfl, rfl, ⟨_, _, rfl⟩, hn⟩
end
end Go.Vm
/- Data of records: forms, whole names, the specification's parts. -/
namespace Go.Vm
set_option linter.unusedVariables false
set_option linter.unusedSimpArgs false
section
variable {C : Tab}
theorem r_form {t : Int} {H : AH} : Runs C c_spec_l02Form [.i .i64 t] H fun v H' => H' = H ∧ v = .s (specForm t) := by
  unfold Runs c_spec_l02Form
  by_cases h1 : t = 1
  · subst h1
    simp -implicitDefEqProofs only [bU, reduceIte, Nat.reduceEqDiff, reduceCtorEq, implies_true, forall_const, eq_self, Nat.reduceAdd, Nat.reduceLT, bne_self_eq_false, bT, eq_self, true_implies, false_implies, forall_const, if_true, if_false, Int.reduceToNat, Nat.reduceSub, Int.reduceLE, Int.reduceEq, endK, rsC, rsV, resV]
    rfl
  by_cases h2 : t = 2
  · subst h2
    simp -implicitDefEqProofs only [bU, reduceIte, Nat.reduceEqDiff, reduceCtorEq, implies_true, forall_const, eq_self, Nat.reduceAdd, Nat.reduceLT, bne_self_eq_false, bT, eq_self, true_implies, false_implies, forall_const, if_true, if_false, Int.reduceToNat, Nat.reduceSub, Int.reduceLE, Int.reduceEq, endK, rsC, rsV, resV]
    rfl
  by_cases h5 : t = 5
  · subst h5
    simp -implicitDefEqProofs only [bU, reduceIte, Nat.reduceEqDiff, reduceCtorEq, implies_true, forall_const, eq_self, Nat.reduceAdd, Nat.reduceLT, bne_self_eq_false, bT, eq_self, true_implies, false_implies, forall_const, if_true, if_false, Int.reduceToNat, Nat.reduceSub, Int.reduceLE, Int.reduceEq, endK, rsC, rsV, resV]
    rfl
  by_cases h12 : t = 12
  · subst h12
    simp -implicitDefEqProofs only [bU, reduceIte, Nat.reduceEqDiff, reduceCtorEq, implies_true, forall_const, eq_self, Nat.reduceAdd, Nat.reduceLT, bne_self_eq_false, bT, eq_self, true_implies, false_implies, forall_const, if_true, if_false, Int.reduceToNat, Nat.reduceSub, Int.reduceLE, Int.reduceEq, endK, rsC, rsV, resV]
    rfl
  by_cases h39 : t = 39
  · subst h39
    simp -implicitDefEqProofs only [bU, reduceIte, Nat.reduceEqDiff, reduceCtorEq, implies_true, forall_const, eq_self, Nat.reduceAdd, Nat.reduceLT, bne_self_eq_false, bT, eq_self, true_implies, false_implies, forall_const, if_true, if_false, Int.reduceToNat, Nat.reduceSub, Int.reduceLE, Int.reduceEq, endK, rsC, rsV, resV]
    rfl
  by_cases h6 : t = 6
  · subst h6
    simp -implicitDefEqProofs only [bU, reduceIte, Nat.reduceEqDiff, reduceCtorEq, implies_true, forall_const, eq_self, Nat.reduceAdd, Nat.reduceLT, bne_self_eq_false, bT, eq_self, true_implies, false_implies, forall_const, if_true, if_false, Int.reduceToNat, Nat.reduceSub, Int.reduceLE, Int.reduceEq, endK, rsC, rsV, resV]
    rfl
  by_cases h13 : t = 13
  · subst h13
    simp -implicitDefEqProofs only [bU, reduceIte, Nat.reduceEqDiff, reduceCtorEq, implies_true, forall_const, eq_self, Nat.reduceAdd, Nat.reduceLT, bne_self_eq_false, bT, eq_self, true_implies, false_implies, forall_const, if_true, if_false, Int.reduceToNat, Nat.reduceSub, Int.reduceLE, Int.reduceEq, endK, rsC, rsV, resV]
    rfl
  by_cases h15 : t = 15
  · subst h15
    simp -implicitDefEqProofs only [bU, reduceIte, Nat.reduceEqDiff, reduceCtorEq, implies_true, forall_const, eq_self, Nat.reduceAdd, Nat.reduceLT, bne_self_eq_false, bT, eq_self, true_implies, false_implies, forall_const, if_true, if_false, Int.reduceToNat, Nat.reduceSub, Int.reduceLE, Int.reduceEq, endK, rsC, rsV, resV]
    rfl
  by_cases h16 : t = 16
  · subst h16
    simp -implicitDefEqProofs only [bU, reduceIte, Nat.reduceEqDiff, reduceCtorEq, implies_true, forall_const, eq_self, Nat.reduceAdd, Nat.reduceLT, bne_self_eq_false, bT, eq_self, true_implies, false_implies, forall_const, if_true, if_false, Int.reduceToNat, Nat.reduceSub, Int.reduceLE, Int.reduceEq, endK, rsC, rsV, resV]
    rfl
  by_cases h28 : t = 28
  · subst h28
    simp -implicitDefEqProofs only [bU, reduceIte, Nat.reduceEqDiff, reduceCtorEq, implies_true, forall_const, eq_self, Nat.reduceAdd, Nat.reduceLT, bne_self_eq_false, bT, eq_self, true_implies, false_implies, forall_const, if_true, if_false, Int.reduceToNat, Nat.reduceSub, Int.reduceLE, Int.reduceEq, endK, rsC, rsV, resV]
    rfl
  by_cases h33 : t = 33
  · subst h33
    simp -implicitDefEqProofs only [bU, reduceIte, Nat.reduceEqDiff, reduceCtorEq, implies_true, forall_const, eq_self, Nat.reduceAdd, Nat.reduceLT, bne_self_eq_false, bT, eq_self, true_implies, false_implies, forall_const, if_true, if_false, Int.reduceToNat, Nat.reduceSub, Int.reduceLE, Int.reduceEq, endK, rsC, rsV, resV]
    rfl
  by_cases h35 : t = 35
  · subst h35
    simp -implicitDefEqProofs only [bU, reduceIte, Nat.reduceEqDiff, reduceCtorEq, implies_true, forall_const, eq_self, Nat.reduceAdd, Nat.reduceLT, bne_self_eq_false, bT, eq_self, true_implies, false_implies, forall_const, if_true, if_false, Int.reduceToNat, Nat.reduceSub, Int.reduceLE, Int.reduceEq, endK, rsC, rsV, resV]
    rfl
  by_cases h47 : t = 47
  · subst h47
    simp -implicitDefEqProofs only [bU, reduceIte, Nat.reduceEqDiff, reduceCtorEq, implies_true, forall_const, eq_self, Nat.reduceAdd, Nat.reduceLT, bne_self_eq_false, bT, eq_self, true_implies, false_implies, forall_const, if_true, if_false, Int.reduceToNat, Nat.reduceSub, Int.reduceLE, Int.reduceEq, endK, rsC, rsV, resV]
    rfl
  by_cases h257 : t = 257
  · subst h257
    simp -implicitDefEqProofs only [bU, reduceIte, Nat.reduceEqDiff, reduceCtorEq, implies_true, forall_const, eq_self, Nat.reduceAdd, Nat.reduceLT, bne_self_eq_false, bT, eq_self, true_implies, false_implies, forall_const, if_true, if_false, Int.reduceToNat, Nat.reduceSub, Int.reduceLE, Int.reduceEq, endK, rsC, rsV, resV]
    rfl
  have e : specForm t = [42] := by simp [specForm, h1, h2, h5, h12, h39, h6, h13, h15, h16, h28, h33, h35, h47, h257]
  rw [e]
  simp -implicitDefEqProofs only [bU, reduceIte, Nat.reduceEqDiff, reduceCtorEq, implies_true, forall_const, eq_self, Nat.reduceAdd, Nat.reduceLT, bne_self_eq_false, bT, eq_self, true_implies, false_implies, forall_const, if_true, if_false, Int.reduceToNat, Nat.reduceSub, Int.reduceLE, h1, h2, h5, h12, h39, h6, h13, h15, h16, h28, h33, h35, h47, h257, endK, rsC, rsV, resV]
theorem r_split {s : List UInt8} {H : AH} (hs : s.length ≤ 1099511627776) : Runs C c_spec_l01Split [.s s] H (LabPost (nameL s) H) := by
  unfold Runs c_spec_l01Split
  by_cases h0 : s = []
  · subst h0
    have e : nameL [] = none := by rw [nameL, if_neg (by simp), labGo]
    rw [e]
    simp -implicitDefEqProofs only [bU, reduceIte, Nat.reduceEqDiff, reduceCtorEq, implies_true, forall_const, eq_self, Nat.reduceAdd, Nat.reduceLT, bne_self_eq_false, bT, eq_self, true_implies, false_implies, forall_const, if_true, if_false, Int.reduceToNat, Nat.reduceSub, Int.reduceLE, Int.reduceLT, Int.natCast_zero, endK, rsC, rsV, resV]
    exact ⟨.new _ _, .ns, rfl, rfl⟩
  have hl := List.length_pos_iff.2 h0
  have g1 : ¬ (s.length : Int) < 1 := by omega
  by_cases g2 : (255 : Int) < s.length
  · simp -implicitDefEqProofs only [bU, reduceIte, Nat.reduceEqDiff, reduceCtorEq, implies_true, forall_const, eq_self, Nat.reduceAdd, Nat.reduceLT, bne_self_eq_false, bT, eq_self, true_implies, false_implies, forall_const, if_true, if_false, Int.reduceToNat, Nat.reduceSub, Int.reduceLE, g1, g2, endK, rsC, rsV, resV]
    rw [nameL, if_pos (by omega)]
    exact ⟨.new _ _, .ns, rfl, rfl⟩
  have hnm : nameL s = labGo s := by rw [nameL, if_neg (by omega)]
  rw [hnm]
  simp -implicitDefEqProofs only [bU, reduceIte, Nat.reduceEqDiff, reduceCtorEq, implies_true, forall_const, eq_self, Nat.reduceAdd, Nat.reduceLT, bne_self_eq_false, bT, eq_self, true_implies, false_implies, forall_const, if_true, if_false, Int.reduceToNat, Nat.reduceSub, Int.reduceLE, g1, g2, fillEC, fillE, List.replicate]
  refine exec_loop (fun n e M => ∃ (r : List UInt8) (acc : List (List UInt8)) (o : AV) (H' : AH) (L : List Lv) (g : Nat), r.length ≤ s.length ∧ n = r.length ∧ look e 5 = .s r ∧ look e 4 = o ∧ M = ⟨L, g, H'⟩ ∧ acc.length + r.length ≤ s.length ∧ Mn H' 1 o (acc.map AV.s) ∧ Ext H H' ∧ (∀ j, j ∈ idA o → H.n ≤ j) ∧ labGo s = (labGo r).map fun q => acc ++ q) ?_ (n := s.length)
    ⟨s, [], .sl H.n 0 0, H.new (.arr true 0 1 []), _, _, by omega, by omega, rfl, rfl, rfl, by simp, ?_, .new _ _, by simp [idA], by simp⟩
  · rintro n e M ⟨r, acc, o, H', L, g, hi, rfl, q5, q4, rfl, hacc, hm, he, hid, hg⟩
    have ho := hm.sl.out
    cases r with
    | nil =>
      rw [show labGo [] = none by rw [labGo]] at hg
      rw [hg]
      simp -implicitDefEqProofs only [bU, reduceIte, Nat.reduceEqDiff, reduceCtorEq, implies_true, forall_const, eq_self, Nat.reduceAdd, Nat.reduceLT, bne_self_eq_false, bT, eq_self, true_implies, false_implies, forall_const, if_true, if_false, Int.reduceToNat, Nat.reduceSub, Int.reduceLE, q4, q5, endK, rsC, rsV, resV]
      exact ⟨he, .ns, rfl, rfl⟩
    | cons b q =>
      have hb := b.toNat_lt
      have w0 := i64b b
      have hp : (0 : Int) < ((q.length + 1 : Nat) : Int) := by omega
      simp only [List.length_cons] at hi hacc
      rw [labGo] at hg
      by_cases h0 : b.toNat = 0
      · have h0' : ((b.toNat : Int) = 0) = True := eq_true (by omega)
        rw [if_pos h0] at hg
        by_cases hq : q = []
        · subst hq
          rw [if_pos rfl, Option.map_some, List.append_nil] at hg
          rw [hg]
          simp -implicitDefEqProofs only [bU, reduceIte, Nat.reduceEqDiff, reduceCtorEq, implies_true, forall_const, eq_self, Nat.reduceAdd, Nat.reduceLT, bne_self_eq_false, bT, eq_self, true_implies, false_implies, forall_const, if_true, if_false, Int.reduceToNat, Nat.reduceSub, Int.reduceLE, q4, q5, hp, w0, h0', ho, Int.reduceLT, show ((1 : Nat) : Int) = 1 from rfl, endK, rsC, rsV, resV]
          exact ⟨he, o, rfl, hm, hid⟩
        · rw [if_neg hq, Option.map_none] at hg
          rw [hg]
          have hq1 : ¬ ((q.length + 1 : Nat) : Int) = 1 := by have := List.length_pos_iff.2 hq; omega
          simp -implicitDefEqProofs only [bU, reduceIte, Nat.reduceEqDiff, reduceCtorEq, implies_true, forall_const, eq_self, Nat.reduceAdd, Nat.reduceLT, bne_self_eq_false, bT, eq_self, true_implies, false_implies, forall_const, if_true, if_false, Int.reduceToNat, Nat.reduceSub, Int.reduceLE, q4, q5, hp, w0, h0', hq1, ho, endK, rsC, rsV, resV]
          exact ⟨he, .ns, rfl, rfl⟩
      · have h0' : ¬ (b.toNat : Int) = 0 := by omega
        rw [if_neg h0] at hg
        by_cases h1 : 63 < b.toNat
        · rw [dif_pos (.inl h1), Option.map_none] at hg
          rw [hg]
          have h1' : (63 : Int) < b.toNat := by omega
          simp -implicitDefEqProofs only [bU, reduceIte, Nat.reduceEqDiff, reduceCtorEq, implies_true, forall_const, eq_self, Nat.reduceAdd, Nat.reduceLT, bne_self_eq_false, bT, eq_self, true_implies, false_implies, forall_const, if_true, if_false, Int.reduceToNat, Nat.reduceSub, Int.reduceLE, q4, q5, hp, w0, h0', h1', ho, endK, rsC, rsV, resV]
          exact ⟨he, .ns, rfl, rfl⟩
        · have h1' : ¬ (63 : Int) < b.toNat := by omega
          have w1 : IntKind.i64.wrap ((b.toNat : Int) + 1) = ((b.toNat + 1 : Nat) : Int) := by rw [w64 (by omega) (by omega)]; rfl
          by_cases h2 : q.length < b.toNat
          · rw [dif_pos (.inr h2), Option.map_none] at hg
            rw [hg]
            have h2' : ((q.length + 1 : Nat) : Int) < ((b.toNat + 1 : Nat) : Int) := by omega
            simp -implicitDefEqProofs only [bU, reduceIte, Nat.reduceEqDiff, reduceCtorEq, implies_true, forall_const, eq_self, Nat.reduceAdd, Nat.reduceLT, bne_self_eq_false, bT, eq_self, true_implies, false_implies, forall_const, if_true, if_false, Int.reduceToNat, Nat.reduceSub, Int.reduceLE, q4, q5, hp, w0, w1, h0', h1', h2', ho, endK, rsC, rsV, resV]
            exact ⟨he, .ns, rfl, rfl⟩
          · rw [dif_neg (by omega)] at hg
            have h2' : ¬ ((q.length + 1 : Nat) : Int) < ((b.toNat + 1 : Nat) : Int) := by omega
            have z1 : (1 : Int) ≤ ((b.toNat + 1 : Nat) : Int) := by omega
            have z2 : (0 : Int) ≤ ((b.toNat + 1 : Nat) : Int) := by omega
            have z3 : ((b.toNat + 1 : Nat) : Int) ≤ ((q.length + 1 : Nat) : Int) := by omega
            have e1 : List.take (b.toNat + 1 - 1) q = q.take b.toNat := by rw [Nat.add_sub_cancel]
            have e2 : List.take (q.length + 1 - (b.toNat + 1)) (List.drop b.toNat q) = q.drop b.toNat := List.take_of_length_le (by simp <;> omega)
            obtain ⟨p1, o', H2, p2, p3, p4, p5, p6, p7, -⟩ := Mn.ap (by' := 16) hm (lit_srcS (t := 42) (g := g) (x := q.take b.toNat) (L := dropL (keepL [4, 5] L) 42) (H := H')) (by simp <;> omega)
            simp -implicitDefEqProofs only [bU, reduceIte, Nat.reduceEqDiff, reduceCtorEq, implies_true, forall_const, eq_self, Nat.reduceAdd, Nat.reduceLT, bne_self_eq_false, bT, eq_self, true_implies, false_implies, forall_const, if_true, if_false, Int.reduceToNat, Nat.reduceSub, Int.reduceLE, q4, q5, hp, w0, w1, h0', h1', h2', z1, z2, z3, toNat_nat, e1, e2, Int.le_refl, List.drop_succ_cons, List.drop_zero, fillEC, fillE, List.replicate, List.set]
            simp -implicitDefEqProofs only [bU, reduceIte, Nat.reduceEqDiff, reduceCtorEq, implies_true, forall_const, eq_self, Nat.reduceAdd, Nat.reduceLT, bne_self_eq_false, p1, p2, p3]
            refine ⟨(q.drop b.toNat).length, by simp <;> omega, q.drop b.toNat, acc ++ [q.take b.toNat], o', H2, _, _, by simp <;> omega, rfl, rfl, rfl, rfl, by simp <;> omega, ?_, he.put hid p5 p6, fun j hj => ?_, ?_⟩
            · rw [List.map_append]; exact p4
            · rcases p7 j hj with h | h
              · exact hid j h
              · have := he.n; omega
            · rw [hg, Option.map_map]
              cases labGo (q.drop b.toNat) <;> simp
  · exact Mn.own (xs := []) (by simp) new_at
def T_split (C : Tab) (f : Nat) : Prop := ∀ (s : List UInt8) (H : AH), s.length ≤ 1099511627776 → ∃ v H', C f [.s s] H = some (v, H') ∧ LabPost (nameL s) H v H'
end
end Go.Vm
/- Places within code: a part of a body, and the body with another part there. -/
namespace Go.Vm
set_option linter.unusedVariables false
set_option linter.unusedSimpArgs false
/-- 0 left, 1 right, 2 a block's or loop's body, 3 then, 4 else. -/
def sAt : S → List Nat → S
  | s, [] => s
  | .q a _, 0 :: p => sAt a p
  | .q _ b, 1 :: p => sAt b p
  | .b _ s, 2 :: p => sAt s p
  | .l _ s, 2 :: p => sAt s p
  | .i _ a _, 3 :: p => sAt a p
  | .i _ _ b, 4 :: p => sAt b p
  | s, _ :: _ => s
def sPut : S → List Nat → S → S
  | _, [], x => x
  | .q a b, 0 :: p, x => .q (sPut a p x) b
  | .q a b, 1 :: p, x => .q a (sPut b p x)
  | .b i s, 2 :: p, x => .b i (sPut s p x)
  | .l v s, 2 :: p, x => .l v (sPut s p x)
  | .i c a b, 3 :: p, x => .i c (sPut a p x) b
  | .i c a b, 4 :: p, x => .i c a (sPut b p x)
  | s, _ :: _, _ => s
theorem put_at : ∀ (p : List Nat) (s : S), sPut s p (sAt s p) = s
  | [], s => by cases s <;> rfl
  | n :: p, s => by
    cases s
    case q a b => match n with
      | 0 => simp only [sAt, sPut, put_at p]
      | 1 => simp only [sAt, sPut, put_at p]
      | n + 2 => simp only [sAt, sPut]
    case b i a => match n with
      | 2 => simp only [sAt, sPut, put_at p]
      | 0 | 1 => simp only [sAt, sPut]
      | n + 3 => simp only [sAt, sPut]
    case l v a => match n with
      | 2 => simp only [sAt, sPut, put_at p]
      | 0 | 1 => simp only [sAt, sPut]
      | n + 3 => simp only [sAt, sPut]
    case i c a b => match n with
      | 3 => simp only [sAt, sPut, put_at p]
      | 4 => simp only [sAt, sPut, put_at p]
      | 0 | 1 | 2 => simp only [sAt, sPut]
      | n + 5 => simp only [sAt, sPut]
    all_goals simp only [sAt, sPut]
/-- A part of a function's body, held as a name. -/
theorem cut_at (F : Fn) (p : List Nat) : ∃ B, B = sAt F.s p ∧ F.s = sPut F.s p B := ⟨_, rfl, (put_at p F.s).symm⟩
end Go.Vm
/- Data of records: the specification's parts. -/
namespace Go.Vm
set_option linter.unusedVariables false
set_option linter.unusedSimpArgs false
def partsBlk : S := sAt c_spec_l02Parts.s [1, 1, 0, 1, 2, 2, 1, 0, 2, 1, 0, 1]
theorem u8n {f : UInt8} {n : Nat} (h : f ≠ UInt8.ofNat n) (hn : n < 256) : ¬ (f.toNat : Int) = (n : Int) := fun e => h (UInt8.toNat_inj.1 (by rw [UInt8.toNat_ofNat']; omega))
def PartsPost (r : Option (List (UInt8 × List UInt8))) (H : AH) (v : AV) (H' : AH) : Prop := Ext H H' ∧ match r with
  | none => ∃ o, v = .tp [o, .b false] ∧ o.outs = true
  | some ps => ∃ o, v = .tp [o, .b true] ∧ Mn H' 1 o (ps.map fun p => AV.s p.2) ∧ ∀ i, i ∈ idA o → H.n ≤ i
def T_parts (C : Tab) (f : Nat) : Prop := ∀ (form d : List UInt8) (H : AH), form.length ≤ 1000 → d.length ≤ 1099511627776 → ∃ v H', C f [.s form, .s d] H = some (v, H') ∧ PartsPost (prs form d) H v H'
def T_CheckS (C : Tab) (f : Nat) : Prop := ∀ (t : Int) (d : List UInt8) (H : AH), d.length ≤ 1099511627776 → ∃ v H', C f [.i .i64 t, .s d] H = some (v, H') ∧ v = .i .i64 (chk t d) ∧ Ext H H'
theorem part_of (f : UInt8) (d : List UInt8) : part f d =
  if f = 110 then (if nmAt d = 0 then none else some (d.take (nmAt d)))
  else if f = 98 then (if d = [] then none else some (d.take 1))
  else if f = 116 then (if txt d = [] then none else some (txt d))
  else if f = 115 then (if txts d = [] then none else some (txts d))
  else if f = 99 then (if 2 ≤ (txt d).length ∧ (txt d).length ≤ 16 ∧ ((txt d).drop 1).all alnum = true then some d else none)
  else if f = 109 then (if mapOk d (-1) then some d else none)
  else if f = 42 then some d else none := rfl
theorem all_of {p : List UInt8} (h : ∀ j, 1 ≤ j → j < p.length → alnum (p.getD j 0) = true) : (p.drop 1).all alnum = true := by
  rw [List.all_eq_true]
  intro x hx
  obtain ⟨i, hi, rfl⟩ := List.getElem_of_mem hx
  simp only [List.length_drop] at hi
  have := h (i + 1) (by omega) (by omega)
  simpa [List.getD, List.getElem?_eq_getElem (show i + 1 < p.length by omega), Nat.add_comm] using this
theorem all_not {p : List UInt8} {k : Nat} (h1 : 1 ≤ k) (h2 : k < p.length) (h : alnum (p.getD k 0) = false) : (p.drop 1).all alnum = false := by
  rw [← Bool.not_eq_true, List.all_eq_true]
  intro hh
  have hm : p.getD k 0 ∈ p.drop 1 := by
    obtain ⟨j, rfl⟩ : ∃ j, k = j + 1 := ⟨k - 1, by omega⟩
    have e : p.getD (j + 1) 0 = (p.drop 1)[j]'(by simp; omega) := by
      simp [List.getD, List.getElem?_eq_getElem h2]
    rw [e]
    exact List.getElem_mem _
  rw [hh _ hm] at h
  cases h
section
variable {C : Tab}
set_option maxRecDepth 100000 in
theorem blk {f : UInt8} {d : List UInt8} {e : Env} {L : List Lv} {g : Nat} {H : AH} {κ : Kont} (hN : T_nmS C n_spec_l02NameAt) (hT : T_txt C n_spec_l02Text) (hA : T_alnum C n_spec_l02Alnum) (hM : T_map C n_spec_l02Map)
    (q1 : look e 1 = .s d) (q8 : look e 8 = .s []) (q19 : look e 19 = .i .u8 f.toNat) (hd : d.length ≤ 1099511627776)
    (hκ1 : ∀ e' L' g' p, (∀ t, t = 0 ∨ t = 6 ∨ t = 7 → look e' t = look e t) → look e' 1 = .s d → look e' 8 = .s p → (part f d = some p ∨ (p = [] ∧ part f d = none ∧ f ≠ 109 ∧ f ≠ 42)) → κ .nx e' ⟨L', g', H⟩)
    (hκ2 : ∀ e' L' g', look e' 4 = .ns → look e' 5 = .b false → part f d = none → κ .rt e' ⟨L', g', H⟩) : exec C partsBlk e ⟨L, g, H⟩ κ := by
  simp only [partsBlk, c_spec_l02Parts, sAt]
  have kN := fun H => hN d H hd
  have kT := fun H => hT d H hd
  have kM := fun H => hM d H hd
  have htl := txt_len d
  by_cases f1 : f = 110
  · subst f1
    have c0 : ((110 : UInt8).toNat : Int) = 110 := rfl
    simp -implicitDefEqProofs only [bU, reduceIte, Nat.reduceEqDiff, reduceCtorEq, implies_true, forall_const, eq_self, Nat.reduceAdd, Nat.reduceLT, bne_self_eq_false, bT, eq_self, true_implies, false_implies, forall_const, if_true, if_false, Int.reduceToNat, Nat.reduceSub, Int.reduceLE, q1, q8, q19, c0, Int.reduceEq, kN]
    refine hκ1 _ _ _ (d.take (nmAt d)) (fun t ht => by rcases ht with rfl | rfl | rfl <;> rfl) q1 rfl ?_
    rw [part_of, if_pos rfl]
    by_cases h0 : nmAt d = 0
    · exact .inr ⟨by rw [h0]; rfl, by rw [if_pos h0], by decide, by decide⟩
    · exact .inl (by rw [if_neg h0])
  have g1 := u8n (n := 110) f1 (by omega)
  by_cases f2 : f = 98
  · subst f2
    have c0 : ((98 : UInt8).toNat : Int) = 98 := rfl
    by_cases h0 : d = []
    · have h0' : (d = []) = True := eq_true h0
      simp -implicitDefEqProofs only [bU, reduceIte, Nat.reduceEqDiff, reduceCtorEq, implies_true, forall_const, eq_self, Nat.reduceAdd, Nat.reduceLT, bne_self_eq_false, bT, eq_self, true_implies, false_implies, forall_const, if_true, if_false, Int.reduceToNat, Nat.reduceSub, Int.reduceLE, q1, q8, q19, c0, Int.reduceEq, h0']
      refine hκ1 _ _ _ [] (fun t ht => by rcases ht with rfl | rfl | rfl <;> rfl) q1 q8 (.inr ⟨rfl, ?_, by decide, by decide⟩)
      rw [part_of, if_neg (by decide), if_pos rfl, if_pos h0]
    · have hl := List.length_pos_iff.2 h0
      have hl' : (1 : Int) ≤ d.length := by omega
      simp -implicitDefEqProofs only [bU, reduceIte, Nat.reduceEqDiff, reduceCtorEq, implies_true, forall_const, eq_self, Nat.reduceAdd, Nat.reduceLT, bne_self_eq_false, bT, eq_self, true_implies, false_implies, forall_const, if_true, if_false, Int.reduceToNat, Nat.reduceSub, Int.reduceLE, q1, q8, q19, c0, Int.reduceEq, h0, hl']
      refine hκ1 _ _ _ (d.take 1) (fun t ht => by rcases ht with rfl | rfl | rfl <;> rfl) q1 rfl (.inl ?_)
      rw [part_of, if_neg (by decide), if_pos rfl, if_neg h0]
  have g2 := u8n (n := 98) f2 (by omega)
  by_cases f3 : f = 116
  · subst f3
    have c0 : ((116 : UInt8).toNat : Int) = 116 := rfl
    simp -implicitDefEqProofs only [bU, reduceIte, Nat.reduceEqDiff, reduceCtorEq, implies_true, forall_const, eq_self, Nat.reduceAdd, Nat.reduceLT, bne_self_eq_false, bT, eq_self, true_implies, false_implies, forall_const, if_true, if_false, Int.reduceToNat, Nat.reduceSub, Int.reduceLE, q1, q8, q19, c0, Int.reduceEq, kT]
    refine hκ1 _ _ _ (txt d) (fun t ht => by rcases ht with rfl | rfl | rfl <;> rfl) q1 rfl ?_
    rw [part_of, if_neg (by decide), if_neg (by decide), if_pos rfl]
    by_cases h0 : txt d = []
    · exact .inr ⟨h0, by rw [if_pos h0], by decide, by decide⟩
    · exact .inl (by rw [if_neg h0])
  have g3 := u8n (n := 116) f3 (by omega)
  by_cases f4 : f = 115
  · subst f4
    have c0 : ((115 : UInt8).toNat : Int) = 115 := rfl
    simp -implicitDefEqProofs only [bU, reduceIte, Nat.reduceEqDiff, reduceCtorEq, implies_true, forall_const, eq_self, Nat.reduceAdd, Nat.reduceLT, bne_self_eq_false, bT, eq_self, true_implies, false_implies, forall_const, if_true, if_false, Int.reduceToNat, Nat.reduceSub, Int.reduceLE, q1, q8, q19, c0, Int.reduceEq]
    refine exec_loop (fun n e' M => ∃ (p : List UInt8) (L : List Lv) (g : Nat), p.length ≤ d.length ∧ n = d.length - p.length ∧ look e' 0 = look e 0 ∧ look e' 6 = look e 6 ∧ look e' 7 = look e 7 ∧ look e' 1 = .s d ∧ look e' 8 = .s p ∧ M = ⟨L, g, H⟩ ∧ txts d = p ++ txts (d.drop p.length)) ?_ (n := d.length)
      ⟨[], _, _, by simp, by simp, rfl, rfl, rfl, q1, q8, rfl, by simp⟩
    rintro n e1 M ⟨p, L, g, hp, rfl, r0, r6, r7, r1, r8, rfl, hx⟩
    have e1' : (d.drop p.length).take (d.length - p.length) = d.drop p.length := List.take_of_length_le (by simp)
    have kT' := fun H => hT (d.drop p.length) H (by simp; omega)
    have z1 : (0 : Int) ≤ p.length := by omega
    have z2 : ((p.length : Nat) : Int) ≤ d.length := by omega
    have hl2 := txt_len (d.drop p.length)
    simp only [List.length_drop] at hl2
    by_cases h0 : txt (d.drop p.length) = []
    · rw [txts_nil h0, List.append_nil] at hx
      have h0' : (txt (d.drop p.length) = []) = True := eq_true h0
      simp -implicitDefEqProofs only [bU, reduceIte, Nat.reduceEqDiff, reduceCtorEq, implies_true, forall_const, eq_self, Nat.reduceAdd, Nat.reduceLT, bne_self_eq_false, bT, eq_self, true_implies, false_implies, forall_const, if_true, if_false, Int.reduceToNat, Nat.reduceSub, Int.reduceLE, r0, r6, r7, r1, r8, z1, z2, toNat_nat, e1', kT', h0', Int.le_refl]
      refine hκ1 _ _ _ p (fun t ht => by rcases ht with rfl | rfl | rfl <;> rfl) rfl rfl ?_
      · rw [part_of, if_neg (by decide), if_neg (by decide), if_neg (by decide), if_pos rfl, hx]
        by_cases hp0 : p = []
        · exact .inr ⟨hp0, by rw [if_pos hp0], by decide, by decide⟩
        · exact .inl (by rw [if_neg hp0])
    · have hpos := List.length_pos_iff.2 h0
      have hcap : p.length + (txt (d.drop p.length)).length ≤ 9223372036854775807 := by omega
      simp -implicitDefEqProofs only [bU, reduceIte, Nat.reduceEqDiff, reduceCtorEq, implies_true, forall_const, eq_self, Nat.reduceAdd, Nat.reduceLT, bne_self_eq_false, bT, eq_self, true_implies, false_implies, forall_const, if_true, if_false, Int.reduceToNat, Nat.reduceSub, Int.reduceLE, r0, r6, r7, r1, r8, z1, z2, toNat_nat, e1', kT', h0, hcap, Int.le_refl]
      refine ⟨d.length - (p ++ txt (d.drop p.length)).length, by simp; omega, p ++ txt (d.drop p.length), _, _, by simp; omega, rfl, rfl, rfl, ?_⟩
      rw [txts_cons h0, ← List.append_assoc, List.drop_drop, ← List.length_append] at hx
      exact hx
  have g4 := u8n (n := 115) f4 (by omega)
  by_cases f5 : f = 99
  · subst f5
    have c0 : ((99 : UInt8).toNat : Int) = 99 := rfl
    have hpart : part 99 d = if 2 ≤ (txt d).length ∧ (txt d).length ≤ 16 ∧ ((txt d).drop 1).all alnum = true then some d else none := by
      rw [part_of, if_neg (by decide), if_neg (by decide), if_neg (by decide), if_neg (by decide), if_pos rfl]
    by_cases h2 : ((txt d).length : Int) < 2
    · simp -implicitDefEqProofs only [bU, reduceIte, Nat.reduceEqDiff, reduceCtorEq, implies_true, forall_const, eq_self, Nat.reduceAdd, Nat.reduceLT, bne_self_eq_false, bT, eq_self, true_implies, false_implies, forall_const, if_true, if_false, Int.reduceToNat, Nat.reduceSub, Int.reduceLE, q1, q8, q19, c0, Int.reduceEq, kT, h2]
      exact hκ2 _ _ _ rfl rfl (by rw [hpart, if_neg (by omega)])
    by_cases h16 : (16 : Int) < ((txt d).length : Int)
    · simp -implicitDefEqProofs only [bU, reduceIte, Nat.reduceEqDiff, reduceCtorEq, implies_true, forall_const, eq_self, Nat.reduceAdd, Nat.reduceLT, bne_self_eq_false, bT, eq_self, true_implies, false_implies, forall_const, if_true, if_false, Int.reduceToNat, Nat.reduceSub, Int.reduceLE, q1, q8, q19, c0, Int.reduceEq, kT, h2, h16]
      exact hκ2 _ _ _ rfl rfl (by rw [hpart, if_neg (by omega)])
    simp -implicitDefEqProofs only [bU, reduceIte, Nat.reduceEqDiff, reduceCtorEq, implies_true, forall_const, eq_self, Nat.reduceAdd, Nat.reduceLT, bne_self_eq_false, bT, eq_self, true_implies, false_implies, forall_const, if_true, if_false, Int.reduceToNat, Nat.reduceSub, Int.reduceLE, q1, q8, q19, c0, Int.reduceEq, kT, h2, h16]
    refine exec_loop (fun n e' M => ∃ (k : Nat) (L : List Lv) (g : Nat), 1 ≤ k ∧ k ≤ (txt d).length ∧ n = (txt d).length - k ∧ look e' 0 = look e 0 ∧ look e' 6 = look e 6 ∧ look e' 7 = look e 7 ∧ look e' 1 = .s d ∧ look e' 8 = .s (txt d) ∧ look e' 9 = .i .i64 k ∧ M = ⟨L, g, H⟩ ∧ ∀ j, 1 ≤ j → j < k → alnum ((txt d).getD j 0) = true) ?_ (n := (txt d).length - 1)
      ⟨1, _, _, by omega, by omega, rfl, rfl, rfl, rfl, q1, rfl, rfl, rfl, fun j h1 h2 => by omega⟩
    rintro n e1 M ⟨k, L, g, hk1, hk, rfl, r0, r6, r7, r1, r8, r9, rfl, hall⟩
    have z1 : (0 : Int) ≤ k := by omega
    have w1 : IntKind.i64.wrap ((k : Int) + 1) = ((k + 1 : Nat) : Int) := by rw [w64 (by omega) (by omega)]; rfl
    have kA := hA ((txt d).getD k 0)
    by_cases hlt : (k : Int) < (txt d).length
    · cases ha : alnum ((txt d).getD k 0) with
      | false =>
        rw [ha] at kA
        simp -implicitDefEqProofs only [bU, reduceIte, Nat.reduceEqDiff, reduceCtorEq, implies_true, forall_const, eq_self, Nat.reduceAdd, Nat.reduceLT, bne_self_eq_false, bT, eq_self, true_implies, false_implies, forall_const, if_true, if_false, Int.reduceToNat, Nat.reduceSub, Int.reduceLE, r0, r6, r7, r1, r8, r9, z1, hlt, toNat_nat, kA]
        exact hκ2 _ _ _ rfl rfl (by rw [hpart, if_neg (by rw [all_not hk1 (by omega) ha]; simp)])
      | true =>
        rw [ha] at kA
        simp -implicitDefEqProofs only [bU, reduceIte, Nat.reduceEqDiff, reduceCtorEq, implies_true, forall_const, eq_self, Nat.reduceAdd, Nat.reduceLT, bne_self_eq_false, bT, eq_self, true_implies, false_implies, forall_const, if_true, if_false, Int.reduceToNat, Nat.reduceSub, Int.reduceLE, r0, r6, r7, r1, r8, r9, z1, hlt, toNat_nat, kA, w1]
        refine ⟨(txt d).length - (k + 1), by omega, k + 1, _, _, by omega, by omega, rfl, rfl, rfl, fun j h1 h2 => ?_⟩
        by_cases hj : j = k
        · rw [hj]; exact ha
        · exact hall j h1 (by omega)
    · simp -implicitDefEqProofs only [bU, reduceIte, Nat.reduceEqDiff, reduceCtorEq, implies_true, forall_const, eq_self, Nat.reduceAdd, Nat.reduceLT, bne_self_eq_false, bT, eq_self, true_implies, false_implies, forall_const, if_true, if_false, Int.reduceToNat, Nat.reduceSub, Int.reduceLE, r0, r6, r7, r1, r8, r9, z1, hlt]
      refine hκ1 _ _ _ d (fun t ht => by rcases ht with rfl | rfl | rfl <;> rfl) rfl rfl (.inl ?_)
      · rw [hpart, if_pos ⟨by omega, by omega, all_of fun j h1 h2 => hall j h1 (by omega)⟩]
  have g5 := u8n (n := 99) f5 (by omega)
  by_cases f6 : f = 109
  · subst f6
    have c0 : ((109 : UInt8).toNat : Int) = 109 := rfl
    have hpart : part 109 d = if mapOk d (-1) then some d else none := by
      rw [part_of, if_neg (by decide), if_neg (by decide), if_neg (by decide), if_neg (by decide), if_neg (by decide), if_pos rfl]
    cases hm : mapOk d (-1) with
    | false =>
      rw [hm] at kM
      simp -implicitDefEqProofs only [bU, reduceIte, Nat.reduceEqDiff, reduceCtorEq, implies_true, forall_const, eq_self, Nat.reduceAdd, Nat.reduceLT, bne_self_eq_false, bT, eq_self, true_implies, false_implies, forall_const, if_true, if_false, Int.reduceToNat, Nat.reduceSub, Int.reduceLE, q1, q8, q19, c0, Int.reduceEq, kM]
      exact hκ2 _ _ _ rfl rfl (by rw [hpart, hm]; rfl)
    | true =>
      rw [hm] at kM
      simp -implicitDefEqProofs only [bU, reduceIte, Nat.reduceEqDiff, reduceCtorEq, implies_true, forall_const, eq_self, Nat.reduceAdd, Nat.reduceLT, bne_self_eq_false, bT, eq_self, true_implies, false_implies, forall_const, if_true, if_false, Int.reduceToNat, Nat.reduceSub, Int.reduceLE, q1, q8, q19, c0, Int.reduceEq, kM]
      exact hκ1 _ _ _ d (fun t ht => by rcases ht with rfl | rfl | rfl <;> rfl) q1 rfl (.inl (by rw [hpart, hm]; rfl))
  have g6 := u8n (n := 109) f6 (by omega)
  by_cases f7 : f = 42
  · subst f7
    have c0 : ((42 : UInt8).toNat : Int) = 42 := rfl
    simp -implicitDefEqProofs only [bU, reduceIte, Nat.reduceEqDiff, reduceCtorEq, implies_true, forall_const, eq_self, Nat.reduceAdd, Nat.reduceLT, bne_self_eq_false, bT, eq_self, true_implies, false_implies, forall_const, if_true, if_false, Int.reduceToNat, Nat.reduceSub, Int.reduceLE, q1, q8, q19, c0, Int.reduceEq]
    exact hκ1 _ _ _ d (fun t ht => by rcases ht with rfl | rfl | rfl <;> rfl) q1 rfl (.inl rfl)
  have g7 := u8n (n := 42) f7 (by omega)
  simp only [show ((110 : Nat) : Int) = 110 from rfl, show ((98 : Nat) : Int) = 98 from rfl, show ((116 : Nat) : Int) = 116 from rfl, show ((115 : Nat) : Int) = 115 from rfl, show ((99 : Nat) : Int) = 99 from rfl, show ((109 : Nat) : Int) = 109 from rfl, show ((42 : Nat) : Int) = 42 from rfl] at g1 g2 g3 g4 g5 g6 g7
  simp -implicitDefEqProofs only [bU, reduceIte, Nat.reduceEqDiff, reduceCtorEq, implies_true, forall_const, eq_self, Nat.reduceAdd, Nat.reduceLT, bne_self_eq_false, bT, eq_self, true_implies, false_implies, forall_const, if_true, if_false, Int.reduceToNat, Nat.reduceSub, Int.reduceLE, q1, q8, q19, g1, g2, g3, g4, g5, g6, g7]
  exact hκ1 _ _ _ [] (fun t ht => by rcases ht with rfl | rfl | rfl <;> rfl) q1 q8 (.inr ⟨rfl, by rw [part_of, if_neg f1, if_neg f2, if_neg f3, if_neg f4, if_neg f5, if_neg f6, if_neg f7], f6, f7⟩)
end
end Go.Vm
