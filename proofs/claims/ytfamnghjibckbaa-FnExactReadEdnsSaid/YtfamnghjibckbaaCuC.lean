/- Functions' code as literals of the abstract machine, printed by wip/tools/lits.py; the kernel checks each against the translation. -/
import Derived.Test.YtfamnghjibckbaaVm19
import Derived.Test.YtfamnghjibckbaaProg
import Derived.KernelRfl
namespace Go.Vm
set_option linter.unusedVariables false
set_option linter.unusedSimpArgs false
/-- loop.example/s01858/spec.l02Num -/
def c_spec_l02Num : Fn := ⟨1, [(.t 2)],
    .q (.o [.mv 2 (.c (.i .i64 0))])
    (.q (.o [.mv 3 (.c (.i .i64 0))])
    (.q (.q (.o [.mv 4 (.c (.i .i64 0))])
    (.b 0 (.l [0, 3, 4] (.q (.q (.o [.mv 5 (.t 4),
      .mv 6 (.t 0),
      .lns 7 (.t 6),
      .bn 8 .lss (.t 5) (.t 7)])
    (.i (.t 8) (.k)
    (.x 0)))
    (.q (.b 1 (.o [.mv 11 (.t 3),
      .bn 12 .mul (.t 11) (.c (.i .i64 256)),
      .mv 13 (.t 0),
      .mv 14 (.t 4),
      .ix 15 (.t 13) (.t 14),
      .ci 16 .i64 (.t 15),
      .bn 17 .add (.t 12) (.t 16),
      .mv 3 (.t 17)]))
    (.o [.mv 9 (.t 4),
      .bn 10 .add (.t 9) (.c (.i .i64 1)),
      .mv 4 (.t 10)]))))))
    (.q (.o [.mv 18 (.t 3),
      .mv 2 (.t 18)])
    (.r))))⟩
abbrev n_spec_l02Num : Nat := 30
theorem k_spec_l02Num : chkF Go.Proofs.Try.prog c_spec_l02Num 30 = true := by kernel_rfl
/-- loop.example/s01858/spec.CutFrames -/
def c_spec_CutFrames : Fn := ⟨2, [(.t 4), (.t 5), (.t 6)],
    .q (.o [.mv 4 (.c .ns),
      .mv 5 (.c .ns),
      .mv 6 (.c (.b false))])
    (.q (.q (.o [.mv 10 (.t 0),
      .ln 11 (.t 10),
      .bn 12 .gtr (.t 11) (.c (.i .i64 65537)),
      .mv 13 (.t 12),
      .gd 13 false (.mv 14 (.t 1)),
      .gd 13 false (.ln 15 (.t 14)),
      .gd 13 false (.bn 16 .gtr (.t 15) (.c (.i .i64 400000))),
      .pk 17 (.t 13) (.c (.b true)) (.t 16)])
    (.i (.t 17) (.q (.o [.mv 4 (.c .ns),
      .mv 5 (.c .ns),
      .mv 6 (.c (.b false))])
    (.r))
    (.k)))
    (.q (.o [.mv 18 (.t 0),
      .cbs 19 (.t 18),
      .mv 20 (.t 1),
      .cbs 21 (.t 20),
      .bn 22 .add (.t 19) (.t 21),
      .mv 7 (.t 22)])
    (.q (.o [.bs 23 .ns 1 0 [],
      .mv 8 (.t 23)])
    (.q (.b 0 (.l [7, 8] (.q (.q (.o [.mv 24 (.t 7),
      .lns 25 (.t 24),
      .bn 26 .geq (.t 25) (.c (.i .i64 2))])
    (.i (.t 26) (.k)
    (.x 0)))
    (.b 1 (.q (.o [.mv 27 (.t 7),
      .ss 28 (.t 27) none (some (.c (.i .i64 2))),
      .cl (some 29) 30 [(.t 28)],
      .mv 9 (.t 29)])
    (.q (.q (.o [.mv 30 (.t 9),
      .bn 31 .eql (.t 30) (.c (.i .i64 0))])
    (.i (.t 31) (.q (.o [.mv 32 (.t 8),
      .mv 4 (.t 32),
      .mv 5 (.c .ns),
      .mv 6 (.c (.b true))])
    (.r))
    (.k)))
    (.q (.q (.o [.mv 33 (.t 7),
      .lns 34 (.t 33),
      .mv 35 (.t 9),
      .bn 36 .add (.t 35) (.c (.i .i64 2)),
      .bn 37 .lss (.t 34) (.t 36)])
    (.i (.t 37) (.x 0)
    (.k)))
    (.q (.o [.mv 38 (.t 8),
      .mv 39 (.t 7),
      .mv 40 (.t 9),
      .bn 41 .add (.t 40) (.c (.i .i64 2)),
      .ss 42 (.t 39) (some (.c (.i .i64 2))) (some (.t 41)),
      .csb 43 (.t 42),
      .lbs 44 .ns 1 1 [(0, (.t 43))],
      .ap 45 (.t 38) (.t 44) 1 24,
      .mv 8 (.t 45)])
    (.o [.mv 46 (.t 7),
      .mv 47 (.t 9),
      .bn 48 .add (.t 47) (.c (.i .i64 2)),
      .ss 49 (.t 46) (some (.t 48)) none,
      .mv 7 (.t 49)])))))))))
    (.q (.o [.mv 50 (.t 8),
      .mv 51 (.t 7),
      .csb 52 (.t 51),
      .mv 4 (.t 50),
      .mv 5 (.t 52),
      .mv 6 (.c (.b false))])
    (.r))))))⟩
abbrev n_spec_CutFrames : Nat := 6
theorem k_spec_CutFrames : chkF Go.Proofs.Try.prog c_spec_CutFrames 6 = true := by kernel_rfl
/-- loop.example/s01858/laws.toByteS -/
def c_laws_toByteS : Fn := ⟨1, [(.t 2)],
    .q (.o [.mv 2 (.c .ns)])
    (.q (.o [.mv 5 (.t 0),
      .ln 6 (.t 5),
      .mk 7 (.i .u8 0) 1 1 (.t 6),
      .mv 3 (.t 7)])
    (.q (.q (.o [.mv 4 (.c (.i .i64 0))])
    (.b 0 (.l [0, 3, 4] (.q (.q (.o [.mv 8 (.t 4),
      .mv 9 (.t 0),
      .ln 10 (.t 9),
      .bn 11 .lss (.t 8) (.t 10)])
    (.i (.t 11) (.k)
    (.x 0)))
    (.q (.b 1 (.o [.mv 14 (.t 3),
      .mv 15 (.t 4),
      .mv 16 (.t 0),
      .mv 17 (.t 4),
      .ia 18 (.t 16) (.t 17) 1,
      .ld 19 (.t 18) none,
      .ia 20 (.t 14) (.t 15) 1,
      .st (.t 20) (.t 19) 1]))
    (.o [.mv 12 (.t 4),
      .bn 13 .add (.t 12) (.c (.i .i64 1)),
      .mv 4 (.t 13)]))))))
    (.q (.o [.mv 21 (.t 3),
      .mv 2 (.t 21)])
    (.r))))⟩
abbrev n_laws_toByteS : Nat := 7
theorem k_laws_toByteS : chkF Go.Proofs.Try.prog c_laws_toByteS 7 = true := by kernel_rfl
/-- loop.example/s01858/impl.CutFrames -/
def c_impl_CutFrames : Fn := ⟨2, [(.t 4), (.t 5), (.t 6)],
    .q (.o [.mv 4 (.c .ns),
      .mv 5 (.c .ns),
      .mv 6 (.c (.b false))])
    (.q (.q (.o [.mv 10 (.t 0),
      .ln 11 (.t 10),
      .bn 12 .gtr (.t 11) (.c (.i .i64 65537)),
      .mv 13 (.t 12),
      .gd 13 false (.mv 14 (.t 1)),
      .gd 13 false (.ln 15 (.t 14)),
      .gd 13 false (.bn 16 .gtr (.t 15) (.c (.i .i64 400000))),
      .pk 17 (.t 13) (.c (.b true)) (.t 16)])
    (.i (.t 17) (.q (.o [.mv 4 (.c .ns),
      .mv 5 (.c .ns),
      .mv 6 (.c (.b false))])
    (.r))
    (.k)))
    (.q (.o [.bs 18 (.i .u8 0) 1 0 [],
      .mv 19 (.t 0),
      .ap 20 (.t 18) (.t 19) 1 1,
      .mv 21 (.t 1),
      .ap 22 (.t 20) (.t 21) 1 1,
      .mv 7 (.t 22)])
    (.q (.o [.mv 8 (.c .ns)])
    (.q (.b 0 (.l [7, 8] (.q (.q (.o [.mv 23 (.t 7),
      .ln 24 (.t 23),
      .bn 25 .geq (.t 24) (.c (.i .i64 2))])
    (.i (.t 25) (.k)
    (.x 0)))
    (.b 1 (.q (.p [⟨.mv 26 (.t 7), [], false⟩,
      ⟨.ia 27 (.t 26) (.c (.i .i64 0)) 1, [], false⟩,
      ⟨.ld 28 (.t 27) none, [], false⟩,
      ⟨.ci 29 .i64 (.t 28), [], false⟩,
      ⟨.bn 30 .shl (.t 29) (.c (.i .u64 8)), [], false⟩,
      ⟨.mv 31 (.t 7), [], false⟩,
      ⟨.ia 32 (.t 31) (.c (.i .i64 1)) 1, [], false⟩,
      ⟨.ld 33 (.t 32) none, [], false⟩,
      ⟨.ci 34 .i64 (.t 33), [], false⟩,
      ⟨.bn 35 .or (.t 30) (.t 34), [], false⟩,
      ⟨.mv 9 (.t 35), [], false⟩])
    (.q (.q (.o [.mv 36 (.t 9),
      .bn 37 .eql (.t 36) (.c (.i .i64 0))])
    (.i (.t 37) (.q (.o [.mv 38 (.t 8),
      .mv 4 (.t 38),
      .mv 5 (.c .ns),
      .mv 6 (.c (.b true))])
    (.r))
    (.k)))
    (.q (.q (.o [.mv 39 (.t 7),
      .ln 40 (.t 39),
      .mv 41 (.t 9),
      .bn 42 .add (.c (.i .i64 2)) (.t 41),
      .bn 43 .lss (.t 40) (.t 42)])
    (.i (.t 43) (.x 0)
    (.k)))
    (.q (.o [.mv 44 (.t 8),
      .bs 45 (.i .u8 0) 1 0 [],
      .mv 46 (.t 7),
      .mv 47 (.t 9),
      .bn 48 .add (.c (.i .i64 2)) (.t 47),
      .sl 49 (.t 46) (some (.c (.i .i64 2))) (some (.t 48)) 1,
      .ap 50 (.t 45) (.t 49) 1 1,
      .lbs 51 .ns 1 1 [(0, (.t 50))],
      .ap 52 (.t 44) (.t 51) 1 24,
      .mv 8 (.t 52)])
    (.o [.mv 53 (.t 7),
      .mv 54 (.t 9),
      .bn 55 .add (.c (.i .i64 2)) (.t 54),
      .sl 56 (.t 53) (some (.t 55)) none 1,
      .mv 7 (.t 56)])))))))))
    (.q (.o [.mv 57 (.t 8),
      .bs 58 (.i .u8 0) 1 0 [],
      .mv 59 (.t 7),
      .ap 60 (.t 58) (.t 59) 1 1,
      .mv 4 (.t 57),
      .mv 5 (.t 60),
      .mv 6 (.c (.b false))])
    (.r))))))⟩
abbrev n_impl_CutFrames : Nat := 8
theorem k_impl_CutFrames : chkF Go.Proofs.Try.prog c_impl_CutFrames 8 = true := by kernel_rfl
/-- loop.example/s01858/laws.eqByteS -/
def c_laws_eqByteS : Fn := ⟨2, [(.t 4)],
    .q (.o [.mv 4 (.c (.b false))])
    (.q (.q (.o [.mv 6 (.t 0),
      .ln 7 (.t 6),
      .mv 8 (.t 1),
      .ln 9 (.t 8),
      .bn 10 .neq (.t 7) (.t 9)])
    (.i (.t 10) (.q (.o [.mv 4 (.c (.b false))])
    (.r))
    (.k)))
    (.q (.q (.o [.mv 5 (.c (.i .i64 0))])
    (.b 0 (.l [0, 1, 5] (.q (.q (.o [.mv 11 (.t 5),
      .mv 12 (.t 0),
      .ln 13 (.t 12),
      .bn 14 .lss (.t 11) (.t 13)])
    (.i (.t 14) (.k)
    (.x 0)))
    (.q (.b 1 (.q (.p [⟨.mv 17 (.t 0), [], false⟩,
      ⟨.mv 18 (.t 5), [], false⟩,
      ⟨.ia 19 (.t 17) (.t 18) 1, [], false⟩,
      ⟨.ld 20 (.t 19) none, [], false⟩,
      ⟨.mv 21 (.t 1), [], false⟩,
      ⟨.mv 22 (.t 5), [], false⟩,
      ⟨.ia 23 (.t 21) (.t 22) 1, [], false⟩,
      ⟨.ld 24 (.t 23) none, [], false⟩,
      ⟨.bn 25 .neq (.t 20) (.t 24), [], false⟩])
    (.i (.t 25) (.q (.o [.mv 4 (.c (.b false))])
    (.r))
    (.k))))
    (.o [.mv 15 (.t 5),
      .bn 16 .add (.t 15) (.c (.i .i64 1)),
      .mv 5 (.t 16)]))))))
    (.q (.o [.mv 4 (.c (.b true))])
    (.r))))⟩
abbrev n_laws_eqByteS : Nat := 10
theorem k_laws_eqByteS : chkF Go.Proofs.Try.prog c_laws_eqByteS 10 = true := by kernel_rfl
/-- loop.example/s01858/laws.eqByteSS -/
def c_laws_eqByteSS : Fn := ⟨2, [(.t 4)],
    .q (.o [.mv 4 (.c (.b false))])
    (.q (.q (.o [.mv 6 (.t 0),
      .ln 7 (.t 6),
      .mv 8 (.t 1),
      .ln 9 (.t 8),
      .bn 10 .neq (.t 7) (.t 9)])
    (.i (.t 10) (.q (.o [.mv 4 (.c (.b false))])
    (.r))
    (.k)))
    (.q (.q (.o [.mv 5 (.c (.i .i64 0))])
    (.b 0 (.l [0, 1, 5] (.q (.q (.o [.mv 11 (.t 5),
      .mv 12 (.t 0),
      .ln 13 (.t 12),
      .bn 14 .lss (.t 11) (.t 13)])
    (.i (.t 14) (.k)
    (.x 0)))
    (.q (.b 1 (.q (.p [⟨.mv 17 (.t 0), [], false⟩,
      ⟨.mv 18 (.t 5), [], false⟩,
      ⟨.ia 19 (.t 17) (.t 18) 1, [], false⟩,
      ⟨.ld 20 (.t 19) none, [], false⟩,
      ⟨.mv 21 (.t 1), [], false⟩,
      ⟨.mv 22 (.t 5), [], false⟩,
      ⟨.ia 23 (.t 21) (.t 22) 1, [], false⟩,
      ⟨.ld 24 (.t 23) none, [], false⟩,
      ⟨.cl (some 25) 10 [(.t 20), (.t 24)], [], false⟩,
      ⟨.un 26 .not (.t 25), [], false⟩])
    (.i (.t 26) (.q (.o [.mv 4 (.c (.b false))])
    (.r))
    (.k))))
    (.o [.mv 15 (.t 5),
      .bn 16 .add (.t 15) (.c (.i .i64 1)),
      .mv 5 (.t 16)]))))))
    (.q (.o [.mv 4 (.c (.b true))])
    (.r))))⟩
abbrev n_laws_eqByteSS : Nat := 9
theorem k_laws_eqByteSS : chkF Go.Proofs.Try.prog c_laws_eqByteSS 9 = true := by kernel_rfl
/-- loop.example/s01858/laws.markByteS -/
def c_laws_markByteS : Fn := ⟨2, [(.t 4)],
    .q (.o [.mv 4 (.c (.i .i64 0))])
    (.q (.q (.o [.mv 5 (.c (.i .i64 0))])
    (.b 0 (.l [0, 1, 5] (.q (.q (.o [.mv 6 (.t 5),
      .mv 7 (.t 0),
      .ln 8 (.t 7),
      .bn 9 .lss (.t 6) (.t 8)])
    (.i (.t 9) (.k)
    (.x 0)))
    (.q (.b 1 (.q (.o [.mv 12 (.t 0),
      .mv 13 (.t 5),
      .mv 14 (.t 1),
      .ci 15 .u8 (.t 14),
      .ia 16 (.t 12) (.t 13) 1,
      .st (.t 16) (.t 15) 1])
    (.o [.mv 17 (.t 1),
      .bn 18 .add (.t 17) (.c (.i .i64 1)),
      .mv 1 (.t 18)])))
    (.o [.mv 10 (.t 5),
      .bn 11 .add (.t 10) (.c (.i .i64 1)),
      .mv 5 (.t 11)]))))))
    (.q (.o [.mv 19 (.t 1),
      .mv 4 (.t 19)])
    (.r)))⟩
abbrev n_laws_markByteS : Nat := 11
theorem k_laws_markByteS : chkF Go.Proofs.Try.prog c_laws_markByteS 11 = true := by kernel_rfl
/-- loop.example/s01858/laws.markByteSS -/
def c_laws_markByteSS : Fn := ⟨2, [(.t 4)],
    .q (.o [.mv 4 (.c (.i .i64 0))])
    (.q (.q (.o [.mv 5 (.c (.i .i64 0))])
    (.b 0 (.l [0, 1, 5] (.q (.q (.o [.mv 6 (.t 5),
      .mv 7 (.t 0),
      .ln 8 (.t 7),
      .bn 9 .lss (.t 6) (.t 8)])
    (.i (.t 9) (.k)
    (.x 0)))
    (.q (.b 1 (.o [.mv 12 (.t 0),
      .mv 13 (.t 5),
      .ia 14 (.t 12) (.t 13) 1,
      .ld 15 (.t 14) none,
      .mv 16 (.t 1),
      .cl (some 17) 11 [(.t 15), (.t 16)],
      .mv 1 (.t 17)]))
    (.o [.mv 10 (.t 5),
      .bn 11 .add (.t 10) (.c (.i .i64 1)),
      .mv 5 (.t 11)]))))))
    (.q (.o [.mv 18 (.t 1),
      .mv 4 (.t 18)])
    (.r)))⟩
abbrev n_laws_markByteSS : Nat := 12
theorem k_laws_markByteSS : chkF Go.Proofs.Try.prog c_laws_markByteSS 12 = true := by kernel_rfl
/-- loop.example/s01858/laws.heldByteS -/
def c_laws_heldByteS : Fn := ⟨2, [(.t 4)],
    .q (.o [.mv 4 (.c (.i .i64 0))])
    (.q (.q (.o [.mv 5 (.c (.i .i64 0))])
    (.b 0 (.l [0, 1, 5] (.q (.q (.o [.mv 6 (.t 5),
      .mv 7 (.t 0),
      .ln 8 (.t 7),
      .bn 9 .lss (.t 6) (.t 8)])
    (.i (.t 9) (.k)
    (.x 0)))
    (.q (.b 1 (.q (.q (.o [.mv 12 (.t 0),
      .mv 13 (.t 5),
      .ia 14 (.t 12) (.t 13) 1,
      .ld 15 (.t 14) none,
      .mv 16 (.t 1),
      .ci 17 .u8 (.t 16),
      .bn 18 .neq (.t 15) (.t 17)])
    (.i (.t 18) (.q (.o [.mv 4 (.c (.i .i64 (-1)))])
    (.r))
    (.k)))
    (.o [.mv 19 (.t 1),
      .bn 20 .add (.t 19) (.c (.i .i64 1)),
      .mv 1 (.t 20)])))
    (.o [.mv 10 (.t 5),
      .bn 11 .add (.t 10) (.c (.i .i64 1)),
      .mv 5 (.t 11)]))))))
    (.q (.o [.mv 21 (.t 1),
      .mv 4 (.t 21)])
    (.r)))⟩
abbrev n_laws_heldByteS : Nat := 14
theorem k_laws_heldByteS : chkF Go.Proofs.Try.prog c_laws_heldByteS 14 = true := by kernel_rfl
/-- loop.example/s01858/laws.heldByteSS -/
def c_laws_heldByteSS : Fn := ⟨2, [(.t 4)],
    .q (.o [.mv 4 (.c (.i .i64 0))])
    (.q (.q (.o [.mv 5 (.c (.i .i64 0))])
    (.b 0 (.l [0, 1, 5] (.q (.q (.o [.mv 6 (.t 5),
      .mv 7 (.t 0),
      .ln 8 (.t 7),
      .bn 9 .lss (.t 6) (.t 8)])
    (.i (.t 9) (.k)
    (.x 0)))
    (.q (.b 1 (.q (.o [.mv 12 (.t 0),
      .mv 13 (.t 5),
      .ia 14 (.t 12) (.t 13) 1,
      .ld 15 (.t 14) none,
      .mv 16 (.t 1),
      .cl (some 17) 14 [(.t 15), (.t 16)],
      .mv 1 (.t 17)])
    (.q (.o [.mv 18 (.t 1),
      .bn 19 .lss (.t 18) (.c (.i .i64 0))])
    (.i (.t 19) (.q (.o [.mv 4 (.c (.i .i64 (-1)))])
    (.r))
    (.k)))))
    (.o [.mv 10 (.t 5),
      .bn 11 .add (.t 10) (.c (.i .i64 1)),
      .mv 5 (.t 11)]))))))
    (.q (.o [.mv 20 (.t 1),
      .mv 4 (.t 20)])
    (.r)))⟩
abbrev n_laws_heldByteSS : Nat := 13
theorem k_laws_heldByteSS : chkF Go.Proofs.Try.prog c_laws_heldByteSS 13 = true := by kernel_rfl
/-- loop.example/s01858/laws.FnExactCutFrames -/
def c_laws_FnExactCutFrames : Fn := ⟨2, [(.t 4)],
    .q (.o [.mv 4 (.c (.b false))])
    (.q (.q (.o [.mv 19 (.t 0),
      .ln 20 (.t 19),
      .bn 21 .gtr (.t 20) (.c (.i .i64 1048576))])
    (.i (.t 21) (.q (.o [.mv 4 (.c (.b true))])
    (.r))
    (.k)))
    (.q (.q (.o [.mv 22 (.t 1),
      .ln 23 (.t 22),
      .bn 24 .gtr (.t 23) (.c (.i .i64 1048576))])
    (.i (.t 24) (.q (.o [.mv 4 (.c (.b true))])
    (.r))
    (.k)))
    (.q (.o [.mv 26 (.t 0),
      .cl (some 27) 7 [(.t 26)],
      .mv 28 (.t 1),
      .cl (some 29) 7 [(.t 28)],
      .cl (some 30) 6 [(.t 27), (.t 29)],
      .mv 25 (.t 30),
      .ex 31 (.t 25) 0,
      .ex 32 (.t 25) 1,
      .ex 33 (.t 25) 2,
      .mv 5 (.t 31),
      .mv 6 (.t 32),
      .mv 7 (.t 33)])
    (.q (.o [.mv 34 (.t 0),
      .cl (some 35) 7 [(.t 34)],
      .mv 8 (.t 35)])
    (.q (.o [.mv 36 (.t 1),
      .cl (some 37) 7 [(.t 36)],
      .mv 9 (.t 37)])
    (.q (.o [.mv 39 (.t 8),
      .mv 40 (.t 9),
      .cl (some 41) 8 [(.t 39), (.t 40)],
      .mv 38 (.t 41),
      .ex 42 (.t 38) 0,
      .ex 43 (.t 38) 1,
      .ex 44 (.t 38) 2,
      .mv 10 (.t 42),
      .mv 11 (.t 43),
      .mv 12 (.t 44)])
    (.q (.q (.o [.mv 45 (.t 10),
      .mv 46 (.t 5),
      .cl (some 47) 9 [(.t 45), (.t 46)],
      .un 48 .not (.t 47),
      .mv 49 (.t 48),
      .gd 49 false (.mv 50 (.t 11)),
      .gd 49 false (.mv 51 (.t 6)),
      .gd 49 false (.cl (some 52) 10 [(.t 50), (.t 51)]),
      .gd 49 false (.un 53 .not (.t 52)),
      .pk 54 (.t 49) (.c (.b true)) (.t 53),
      .mv 55 (.t 54),
      .gd 55 false (.mv 56 (.t 12)),
      .gd 55 false (.mv 57 (.t 7)),
      .gd 55 false (.be 58 true (.t 56) (.t 57)),
      .pk 59 (.t 55) (.c (.b true)) (.t 58)])
    (.i (.t 59) (.q (.o [.mv 4 (.c (.b false))])
    (.r))
    (.k)))
    (.q (.q (.o [.mv 60 (.t 8),
      .mv 61 (.t 0),
      .cl (some 62) 7 [(.t 61)],
      .cl (some 63) 10 [(.t 60), (.t 62)],
      .un 64 .not (.t 63)])
    (.i (.t 64) (.q (.o [.mv 4 (.c (.b false))])
    (.r))
    (.k)))
    (.q (.q (.o [.mv 65 (.t 9),
      .mv 66 (.t 1),
      .cl (some 67) 7 [(.t 66)],
      .cl (some 68) 10 [(.t 65), (.t 67)],
      .un 69 .not (.t 68)])
    (.i (.t 69) (.q (.o [.mv 4 (.c (.b false))])
    (.r))
    (.k)))
    (.q (.o [.mv 13 (.c (.i .i64 1))])
    (.q (.o [.mv 70 (.t 8),
      .mv 71 (.t 13),
      .cl (some 72) 11 [(.t 70), (.t 71)],
      .mv 13 (.t 72)])
    (.q (.o [.mv 73 (.t 9),
      .mv 74 (.t 13),
      .cl (some 75) 11 [(.t 73), (.t 74)],
      .mv 13 (.t 75)])
    (.q (.q (.o [.mv 76 (.t 13),
      .bn 77 .lss (.t 76) (.c (.i .i64 0)),
      .mv 78 (.t 77),
      .gd 78 false (.mv 79 (.t 10)),
      .gd 78 false (.mv 80 (.t 5)),
      .gd 78 false (.cl (some 81) 9 [(.t 79), (.t 80)]),
      .gd 78 false (.un 82 .not (.t 81)),
      .pk 83 (.t 78) (.c (.b true)) (.t 82),
      .mv 84 (.t 83),
      .gd 84 false (.mv 85 (.t 11)),
      .gd 84 false (.mv 86 (.t 6)),
      .gd 84 false (.cl (some 87) 10 [(.t 85), (.t 86)]),
      .gd 84 false (.un 88 .not (.t 87)),
      .pk 89 (.t 84) (.c (.b true)) (.t 88),
      .mv 90 (.t 89),
      .gd 90 false (.mv 91 (.t 12)),
      .gd 90 false (.mv 92 (.t 7)),
      .gd 90 false (.be 93 true (.t 91) (.t 92)),
      .pk 94 (.t 90) (.c (.b true)) (.t 93)])
    (.i (.t 94) (.q (.o [.mv 4 (.c (.b false))])
    (.r))
    (.k)))
    (.q (.o [.mv 14 (.c (.i .i64 1))])
    (.q (.o [.mv 95 (.t 10),
      .mv 96 (.t 14),
      .cl (some 97) 12 [(.t 95), (.t 96)],
      .mv 14 (.t 97)])
    (.q (.o [.mv 98 (.t 11),
      .mv 99 (.t 14),
      .cl (some 100) 11 [(.t 98), (.t 99)],
      .mv 14 (.t 100)])
    (.q (.o [.mv 15 (.c (.i .i64 1))])
    (.q (.o [.mv 101 (.t 10),
      .mv 102 (.t 15),
      .cl (some 103) 13 [(.t 101), (.t 102)],
      .mv 15 (.t 103)])
    (.q (.q (.o [.mv 104 (.t 15),
      .bn 105 .lss (.t 104) (.c (.i .i64 0))])
    (.i (.t 105) (.q (.o [.mv 4 (.c (.b false))])
    (.r))
    (.k)))
    (.q (.o [.mv 106 (.t 11),
      .mv 107 (.t 15),
      .cl (some 108) 14 [(.t 106), (.t 107)],
      .mv 15 (.t 108)])
    (.q (.q (.o [.mv 109 (.t 15),
      .bn 110 .lss (.t 109) (.c (.i .i64 0))])
    (.i (.t 110) (.q (.o [.mv 4 (.c (.b false))])
    (.r))
    (.k)))
    (.q (.q (.o [.mv 111 (.t 15),
      .mv 112 (.t 14),
      .bn 113 .neq (.t 111) (.t 112)])
    (.i (.t 113) (.q (.o [.mv 4 (.c (.b false))])
    (.r))
    (.k)))
    (.q (.o [.mv 115 (.t 0),
      .cl (some 116) 7 [(.t 115)],
      .mv 117 (.t 1),
      .cl (some 118) 7 [(.t 117)],
      .cl (some 119) 8 [(.t 116), (.t 118)],
      .mv 114 (.t 119),
      .ex 120 (.t 114) 0,
      .ex 121 (.t 114) 1,
      .ex 122 (.t 114) 2,
      .mv 16 (.t 120),
      .mv 17 (.t 121),
      .mv 18 (.t 122)])
    (.q (.q (.o [.mv 123 (.t 16),
      .mv 124 (.t 5),
      .cl (some 125) 9 [(.t 123), (.t 124)],
      .un 126 .not (.t 125),
      .mv 127 (.t 126),
      .gd 127 false (.mv 128 (.t 17)),
      .gd 127 false (.mv 129 (.t 6)),
      .gd 127 false (.cl (some 130) 10 [(.t 128), (.t 129)]),
      .gd 127 false (.un 131 .not (.t 130)),
      .pk 132 (.t 127) (.c (.b true)) (.t 131),
      .mv 133 (.t 132),
      .gd 133 false (.mv 134 (.t 18)),
      .gd 133 false (.mv 135 (.t 7)),
      .gd 133 false (.be 136 true (.t 134) (.t 135)),
      .pk 137 (.t 133) (.c (.b true)) (.t 136)])
    (.i (.t 137) (.q (.o [.mv 4 (.c (.b false))])
    (.r))
    (.k)))
    (.q (.o [.mv 15 (.c (.i .i64 1))])
    (.q (.o [.mv 138 (.t 10),
      .mv 139 (.t 15),
      .cl (some 140) 13 [(.t 138), (.t 139)],
      .mv 15 (.t 140)])
    (.q (.q (.o [.mv 141 (.t 15),
      .bn 142 .lss (.t 141) (.c (.i .i64 0))])
    (.i (.t 142) (.q (.o [.mv 4 (.c (.b false))])
    (.r))
    (.k)))
    (.q (.o [.mv 143 (.t 11),
      .mv 144 (.t 15),
      .cl (some 145) 14 [(.t 143), (.t 144)],
      .mv 15 (.t 145)])
    (.q (.q (.o [.mv 146 (.t 15),
      .bn 147 .lss (.t 146) (.c (.i .i64 0))])
    (.i (.t 147) (.q (.o [.mv 4 (.c (.b false))])
    (.r))
    (.k)))
    (.q (.q (.o [.mv 148 (.t 15),
      .mv 149 (.t 14),
      .bn 150 .neq (.t 148) (.t 149)])
    (.i (.t 150) (.q (.o [.mv 4 (.c (.b false))])
    (.r))
    (.k)))
    (.q (.o [.mv 4 (.c (.b true))])
    (.r))))))))))))))))))))))))))))))))⟩
abbrev n_laws_FnExactCutFrames : Nat := 3
theorem k_laws_FnExactCutFrames : chkF Go.Proofs.Try.prog c_laws_FnExactCutFrames 3 = true := by kernel_rfl
theorem mixed : Go.Proofs.Try.prog.follows .mixedOrders = true := by kernel_rfl
end Go.Vm
