/- Functions' code as literals of the abstract machine, printed by wip/tools/lits.py; the kernel checks each against the translation. -/
import Derived.Test.YtfamnghjibckbaaVm19
import Derived.Test.YtfamnghjibckbaaProg
import Derived.KernelRfl
namespace Go.Vm
set_option linter.unusedVariables false
set_option linter.unusedSimpArgs false
/-- loop.example/s01858/laws.szOption -/
def c_laws_szOption : Fn := ⟨2, [(.t 4)],
    .q (.o [.lbx 2 (.t 0),
      .mv 4 (.c (.i .i64 0))])
    (.q (.o [.mv 5 (.t 1),
      .fa 6 (.t 2) 1,
      .ld 7 (.t 6) none,
      .lns 8 (.t 7),
      .bn 9 .sub (.t 5) (.t 8),
      .mv 1 (.t 9)])
    (.q (.q (.o [.mv 10 (.t 1),
      .bn 11 .lss (.t 10) (.c (.i .i64 0))])
    (.i (.t 11) (.q (.o [.mv 4 (.c (.i .i64 (-1)))])
    (.r))
    (.k)))
    (.q (.o [.mv 12 (.t 1),
      .mv 4 (.t 12)])
    (.r))))⟩
abbrev n_laws_szOption : Nat := 31
theorem k_laws_szOption : chkF Go.Proofs.Try.prog c_laws_szOption 31 = true := by kernel_rfl
/-- loop.example/s01858/laws.szOptionS -/
def c_laws_szOptionS : Fn := ⟨2, [(.t 4)],
    .q (.o [.mv 4 (.c (.i .i64 0))])
    (.q (.o [.mv 6 (.t 1),
      .mv 7 (.t 0),
      .ln 8 (.t 7),
      .bn 9 .sub (.t 6) (.t 8),
      .mv 1 (.t 9)])
    (.q (.q (.o [.mv 10 (.t 1),
      .bn 11 .lss (.t 10) (.c (.i .i64 0))])
    (.i (.t 11) (.q (.o [.mv 4 (.c (.i .i64 (-1)))])
    (.r))
    (.k)))
    (.q (.q (.o [.mv 5 (.c (.i .i64 0))])
    (.b 0 (.l [0, 1, 5] (.q (.q (.o [.mv 12 (.t 5),
      .mv 13 (.t 0),
      .ln 14 (.t 13),
      .bn 15 .lss (.t 12) (.t 14)])
    (.i (.t 15) (.k)
    (.x 0)))
    (.q (.b 1 (.q (.o [.mv 18 (.t 0),
      .mv 19 (.t 5),
      .ia 20 (.t 18) (.t 19) 2,
      .ld 21 (.t 20) (some 2),
      .mv 22 (.t 1),
      .cl (some 23) 31 [(.t 21), (.t 22)],
      .mv 1 (.t 23)])
    (.q (.o [.mv 24 (.t 1),
      .bn 25 .lss (.t 24) (.c (.i .i64 0))])
    (.i (.t 25) (.q (.o [.mv 4 (.c (.i .i64 (-1)))])
    (.r))
    (.k)))))
    (.o [.mv 16 (.t 5),
      .bn 17 .add (.t 16) (.c (.i .i64 1)),
      .mv 5 (.t 17)]))))))
    (.q (.o [.mv 26 (.t 1),
      .mv 4 (.t 26)])
    (.r)))))⟩
abbrev n_laws_szOptionS : Nat := 15
theorem k_laws_szOptionS : chkF Go.Proofs.Try.prog c_laws_szOptionS 15 = true := by kernel_rfl
/-- loop.example/s01858/spec.l04In -/
def c_spec_l04In : Fn := ⟨2, [(.t 4)],
    .q (.o [.mv 4 (.c (.b false))])
    (.q (.o [.mv 5 (.t 0),
      .bn 6 .geq (.t 5) (.c (.i .i64 0)),
      .mv 7 (.t 6),
      .gd 7 true (.mv 8 (.t 0)),
      .gd 7 true (.mv 9 (.t 1)),
      .gd 7 true (.bn 10 .leq (.t 8) (.t 9)),
      .pk 11 (.t 7) (.t 10) (.c (.b false)),
      .mv 4 (.t 11)])
    (.r))⟩
abbrev n_spec_l04In : Nat := 32
theorem k_spec_l04In : chkF Go.Proofs.Try.prog c_spec_l04In 32 = true := by kernel_rfl
/-- loop.example/s01858/spec.l02Put -/
def c_spec_l02Put : Fn := ⟨2, [(.t 4)],
    .q (.o [.mv 4 (.c (.s []))])
    (.q (.o [.bs 7 (.i .u8 0) 1 0 [],
      .mv 5 (.t 7)])
    (.q (.q (.o [.mv 8 (.t 1),
      .bn 9 .sub (.t 8) (.c (.i .i64 1)),
      .mv 6 (.t 9)])
    (.b 0 (.l [0, 5, 6] (.q (.q (.o [.mv 10 (.t 6),
      .bn 11 .geq (.t 10) (.c (.i .i64 0))])
    (.i (.t 11) (.k)
    (.x 0)))
    (.q (.b 1 (.o [.mv 14 (.t 5),
      .mv 15 (.t 0),
      .mv 16 (.t 6),
      .bn 17 .mul (.c (.i .i64 8)) (.t 16),
      .ci 18 .u64 (.t 17),
      .bn 19 .shr (.t 15) (.t 18),
      .ci 20 .u8 (.t 19),
      .lbs 21 (.i .u8 0) 1 1 [(0, (.t 20))],
      .ap 22 (.t 14) (.t 21) 1 1,
      .mv 5 (.t 22)]))
    (.o [.mv 12 (.t 6),
      .bn 13 .sub (.t 12) (.c (.i .i64 1)),
      .mv 6 (.t 13)]))))))
    (.q (.o [.mv 23 (.t 5),
      .cbs 24 (.t 23),
      .mv 4 (.t 24)])
    (.r))))⟩
abbrev n_spec_l02Put : Nat := 33
theorem k_spec_l02Put : chkF Go.Proofs.Try.prog c_spec_l02Put 33 = true := by kernel_rfl
/-- loop.example/s01858/spec.EdnsRecord -/
def c_spec_EdnsRecord : Fn := ⟨4, [(.c 8 (some 5)), (.t 9)],
    .q (.o [.lal 8 (.ag [(.s []), (.i .i64 0), (.i .i64 0), (.i .i64 0), (.s [])]),
      .mv 9 (.c (.i .i64 0))])
    (.q (.q (.o [.mv 15 (.t 0),
      .cl (some 16) 32 [(.t 15), (.c (.i .i64 65535))],
      .un 17 .not (.t 16),
      .mv 18 (.t 17),
      .gd 18 false (.mv 19 (.t 2)),
      .gd 18 false (.cl (some 20) 32 [(.t 19), (.c (.i .i64 65535))]),
      .gd 18 false (.un 21 .not (.t 20)),
      .pk 22 (.t 18) (.c (.b true)) (.t 21),
      .mv 23 (.t 22),
      .gd 23 false (.mv 24 (.t 1)),
      .gd 23 false (.cl (some 25) 32 [(.t 24), (.c (.i .i64 255))]),
      .gd 23 false (.un 26 .not (.t 25)),
      .pk 27 (.t 23) (.c (.b true)) (.t 26)])
    (.i (.t 27) (.q (.o [.bd 28 [(.s []), (.i .i64 0), (.i .i64 0), (.i .i64 0), (.s [])] [],
      .st (.t 8) (.t 28) 5,
      .mv 9 (.c (.i .i64 32))])
    (.r))
    (.k)))
    (.q (.o [.bs 29 (.i .u8 0) 1 0 [],
      .mv 10 (.t 29)])
    (.q (.q (.o [.mv 11 (.c (.i .i64 0))])
    (.b 0 (.l [0, 1, 2, 3, 8, 10, 11] (.q (.q (.o [.mv 30 (.t 11),
      .mv 31 (.t 3),
      .ln 32 (.t 31),
      .bn 33 .lss (.t 30) (.t 32)])
    (.i (.t 33) (.k)
    (.x 0)))
    (.q (.b 1 (.q (.o [.mv 36 (.t 3),
      .mv 37 (.t 11),
      .ia 38 (.t 36) (.t 37) 2,
      .ld 39 (.t 38) (some 2),
      .lal 12 (.ag [(.i .i64 0), (.s [])]),
      .st (.t 12) (.t 39) 2])
    (.q (.q (.o [.fa 40 (.t 12) 0,
      .ld 41 (.t 40) none,
      .cl (some 42) 32 [(.t 41), (.c (.i .i64 65535))],
      .un 43 .not (.t 42),
      .mv 44 (.t 43),
      .gd 44 false (.fa 45 (.t 12) 1),
      .gd 44 false (.ld 46 (.t 45) none),
      .gd 44 false (.lns 47 (.t 46)),
      .gd 44 false (.bn 48 .gtr (.t 47) (.c (.i .i64 65535))),
      .pk 49 (.t 44) (.c (.b true)) (.t 48)])
    (.i (.t 49) (.q (.o [.bd 50 [(.s []), (.i .i64 0), (.i .i64 0), (.i .i64 0), (.s [])] [],
      .st (.t 8) (.t 50) 5,
      .mv 9 (.c (.i .i64 32))])
    (.r))
    (.k)))
    (.q (.p [⟨.fa 51 (.t 12) 0, [], false⟩,
      ⟨.ld 52 (.t 51) none, [], false⟩,
      ⟨.cl (some 53) 33 [(.t 52), (.c (.i .i64 2))], [], true⟩,
      ⟨.fa 54 (.t 12) 1, [], false⟩,
      ⟨.ld 55 (.t 54) none, [2], false⟩,
      ⟨.lns 56 (.t 55), [], false⟩,
      ⟨.cl (some 57) 33 [(.t 56), (.c (.i .i64 2))], [], true⟩,
      ⟨.bn 58 .add (.t 53) (.t 57), [], false⟩,
      ⟨.fa 59 (.t 12) 1, [], false⟩,
      ⟨.ld 60 (.t 59) none, [2, 6], false⟩,
      ⟨.bn 61 .add (.t 58) (.t 60), [], false⟩,
      ⟨.mv 13 (.t 61), [], false⟩])
    (.q (.o [.mv 14 (.c (.i .i64 0))])
    (.b 2 (.l [0, 1, 2, 3, 8, 10, 11, 13, 14] (.q (.q (.o [.mv 62 (.t 14),
      .mv 63 (.t 13),
      .lns 64 (.t 63),
      .bn 65 .lss (.t 62) (.t 64)])
    (.i (.t 65) (.k)
    (.x 2)))
    (.q (.b 3 (.o [.mv 68 (.t 10),
      .mv 69 (.t 13),
      .mv 70 (.t 14),
      .ix 71 (.t 69) (.t 70),
      .lbs 72 (.i .u8 0) 1 1 [(0, (.t 71))],
      .ap 73 (.t 68) (.t 72) 1 1,
      .mv 10 (.t 73)]))
    (.o [.mv 66 (.t 14),
      .bn 67 .add (.t 66) (.c (.i .i64 1)),
      .mv 14 (.t 67)]))))))))))
    (.o [.mv 34 (.t 11),
      .bn 35 .add (.t 34) (.c (.i .i64 1)),
      .mv 11 (.t 35)]))))))
    (.q (.q (.o [.mv 74 (.t 10),
      .ln 75 (.t 74),
      .bn 76 .gtr (.t 75) (.c (.i .i64 65535))])
    (.i (.t 76) (.q (.o [.bd 77 [(.s []), (.i .i64 0), (.i .i64 0), (.i .i64 0), (.s [])] [],
      .st (.t 8) (.t 77) 5,
      .mv 9 (.c (.i .i64 32))])
    (.r))
    (.k)))
    (.q (.o [.mv 78 (.t 0),
      .mv 79 (.t 1),
      .bn 80 .shl (.t 79) (.c (.i .u64 24)),
      .mv 81 (.t 2),
      .bn 82 .add (.t 80) (.t 81),
      .mv 83 (.t 10),
      .cbs 84 (.t 83),
      .bd 85 [(.s []), (.i .i64 0), (.i .i64 0), (.i .i64 0), (.s [])] [(0, 1, (.c (.s [0]))), (1, 1, (.c (.i .i64 41))), (2, 1, (.t 78)), (3, 1, (.t 82)), (4, 1, (.t 84))],
      .st (.t 8) (.t 85) 5,
      .mv 9 (.c (.i .i64 0))])
    (.r))))))⟩
abbrev n_spec_EdnsRecord : Nat := 16
theorem k_spec_EdnsRecord : chkF Go.Proofs.Try.prog c_spec_EdnsRecord 16 = true := by kernel_rfl
/-- loop.example/s01858/laws.toOption -/
def c_laws_toOption : Fn := ⟨1, [(.c 2 (some 2))],
    .q (.o [.lbx 1 (.t 0),
      .lal 2 (.ag [(.i .i64 0), (.s [])])])
    (.q (.o [.lal 3 (.ag [(.i .i64 0), (.s [])])])
    (.q (.o [.fa 4 (.t 1) 0,
      .ld 5 (.t 4) none,
      .fa 6 (.t 3) 0,
      .st (.t 6) (.t 5) 1])
    (.q (.o [.fa 7 (.t 1) 1,
      .ld 8 (.t 7) none,
      .fa 9 (.t 3) 1,
      .st (.t 9) (.t 8) 1])
    (.q (.o [.ld 10 (.t 3) (some 2),
      .st (.t 2) (.t 10) 2])
    (.r)))))⟩
abbrev n_laws_toOption : Nat := 34
theorem k_laws_toOption : chkF Go.Proofs.Try.prog c_laws_toOption 34 = true := by kernel_rfl
/-- loop.example/s01858/laws.toOptionS -/
def c_laws_toOptionS : Fn := ⟨1, [(.t 2)],
    .q (.o [.mv 2 (.c .ns)])
    (.q (.o [.mv 5 (.t 0),
      .ln 6 (.t 5),
      .mk 7 (.ag [(.i .i64 0), (.s [])]) 2 24 (.t 6),
      .mv 3 (.t 7)])
    (.q (.q (.o [.mv 4 (.c (.i .i64 0))])
    (.b 0 (.l [0, 3, 4] (.q (.q (.o [.mv 8 (.t 4),
      .mv 9 (.t 0),
      .ln 10 (.t 9),
      .bn 11 .lss (.t 8) (.t 10)])
    (.i (.t 11) (.k)
    (.x 0)))
    (.q (.b 1 (.o [.mv 14 (.t 3),
      .mv 15 (.t 4),
      .mv 16 (.t 0),
      .mv 17 (.t 4),
      .ia 18 (.t 16) (.t 17) 2,
      .ld 19 (.t 18) (some 2),
      .cl (some 20) 34 [(.t 19)],
      .ia 21 (.t 14) (.t 15) 2,
      .st (.t 21) (.t 20) 2]))
    (.o [.mv 12 (.t 4),
      .bn 13 .add (.t 12) (.c (.i .i64 1)),
      .mv 4 (.t 13)]))))))
    (.q (.o [.mv 22 (.t 3),
      .mv 2 (.t 22)])
    (.r))))⟩
abbrev n_laws_toOptionS : Nat := 17
theorem k_laws_toOptionS : chkF Go.Proofs.Try.prog c_laws_toOptionS 17 = true := by kernel_rfl
/-- loop.example/s01858/impl.within -/
def c_impl_within : Fn := ⟨3, [(.t 6)],
    .q (.o [.mv 6 (.c (.b false))])
    (.q (.o [.mv 7 (.t 0),
      .mv 8 (.t 1),
      .bn 9 .geq (.t 7) (.t 8),
      .mv 10 (.t 9),
      .gd 10 true (.mv 11 (.t 0)),
      .gd 10 true (.mv 12 (.t 2)),
      .gd 10 true (.bn 13 .leq (.t 11) (.t 12)),
      .pk 14 (.t 10) (.t 13) (.c (.b false)),
      .mv 6 (.t 14)])
    (.r))⟩
abbrev n_impl_within : Nat := 35
theorem k_impl_within : chkF Go.Proofs.Try.prog c_impl_within 35 = true := by kernel_rfl
/-- loop.example/s01858/impl.p16 -/
def c_impl_p16 : Fn := ⟨1, [(.t 2)],
    .q (.o [.mv 2 (.c (.s []))])
    (.q (.o [.mv 3 (.t 0),
      .bn 4 .shr (.t 3) (.c (.i .u64 8)),
      .ci 5 .u8 (.t 4),
      .mv 6 (.t 0),
      .ci 7 .u8 (.t 6),
      .bs 8 (.i .u8 0) 1 2 [(0, (.t 5)), (1, (.t 7))],
      .cbs 9 (.t 8),
      .mv 2 (.t 9)])
    (.r))⟩
abbrev n_impl_p16 : Nat := 36
theorem k_impl_p16 : chkF Go.Proofs.Try.prog c_impl_p16 36 = true := by kernel_rfl
/-- loop.example/s01858/impl.EdnsRecord -/
def c_impl_EdnsRecord : Fn := ⟨4, [(.c 8 (some 5)), (.t 9)],
    .q (.o [.lal 8 (.ag [(.s []), (.i .i64 0), (.i .i64 0), (.i .i64 0), (.s [])]),
      .mv 9 (.c (.i .i64 0))])
    (.q (.q (.o [.mv 13 (.t 0),
      .cl (some 14) 35 [(.t 13), (.c (.i .i64 0)), (.c (.i .i64 65535))],
      .un 15 .not (.t 14),
      .mv 16 (.t 15),
      .gd 16 false (.mv 17 (.t 2)),
      .gd 16 false (.cl (some 18) 35 [(.t 17), (.c (.i .i64 0)), (.c (.i .i64 65535))]),
      .gd 16 false (.un 19 .not (.t 18)),
      .pk 20 (.t 16) (.c (.b true)) (.t 19),
      .mv 21 (.t 20),
      .gd 21 false (.mv 22 (.t 1)),
      .gd 21 false (.cl (some 23) 35 [(.t 22), (.c (.i .i64 0)), (.c (.i .i64 255))]),
      .gd 21 false (.un 24 .not (.t 23)),
      .pk 25 (.t 21) (.c (.b true)) (.t 24)])
    (.i (.t 25) (.q (.o [.bd 26 [(.s []), (.i .i64 0), (.i .i64 0), (.i .i64 0), (.s [])] [],
      .st (.t 8) (.t 26) 5,
      .mv 9 (.c (.i .i64 32))])
    (.r))
    (.k)))
    (.q (.o [.mv 10 (.c (.s []))])
    (.q (.q (.o [.mv 27 (.t 3),
      .ln 28 (.t 27),
      .mv 29 (.c (.i .i64 0))])
    (.b 0 (.l [0, 1, 2, 8, 10, 27, 28, 29] (.q (.o [.bn 30 .lss (.t 29) (.t 28)])
    (.q (.i (.t 30) (.k)
    (.x 0))
    (.q (.b 1 (.q (.o [.ia 31 (.t 27) (.t 29) 2,
      .ld 32 (.t 31) (some 2),
      .lal 12 (.ag [(.i .i64 0), (.s [])]),
      .st (.t 12) (.t 32) 2])
    (.q (.q (.o [.fa 33 (.t 12) 0,
      .ld 34 (.t 33) none,
      .cl (some 35) 35 [(.t 34), (.c (.i .i64 0)), (.c (.i .i64 65535))],
      .un 36 .not (.t 35),
      .mv 37 (.t 36),
      .gd 37 false (.fa 38 (.t 12) 1),
      .gd 37 false (.ld 39 (.t 38) none),
      .gd 37 false (.lns 40 (.t 39)),
      .gd 37 false (.bn 41 .gtr (.t 40) (.c (.i .i64 65535))),
      .pk 42 (.t 37) (.c (.b true)) (.t 41)])
    (.i (.t 42) (.q (.o [.bd 43 [(.s []), (.i .i64 0), (.i .i64 0), (.i .i64 0), (.s [])] [],
      .st (.t 8) (.t 43) 5,
      .mv 9 (.c (.i .i64 32))])
    (.r))
    (.k)))
    (.q (.p [⟨.mv 44 (.t 10), [], false⟩,
      ⟨.fa 45 (.t 12) 0, [], false⟩,
      ⟨.ld 46 (.t 45) none, [], false⟩,
      ⟨.cl (some 47) 36 [(.t 46)], [], true⟩,
      ⟨.fa 48 (.t 12) 1, [], false⟩,
      ⟨.ld 49 (.t 48) none, [3], false⟩,
      ⟨.lns 50 (.t 49), [], false⟩,
      ⟨.cl (some 51) 36 [(.t 50)], [], true⟩,
      ⟨.bn 52 .add (.t 47) (.t 51), [], false⟩,
      ⟨.fa 53 (.t 12) 1, [], false⟩,
      ⟨.ld 54 (.t 53) none, [3, 7], false⟩,
      ⟨.bn 55 .add (.t 52) (.t 54), [], false⟩,
      ⟨.bn 56 .add (.t 44) (.t 55), [], false⟩,
      ⟨.mv 10 (.t 56), [], false⟩])
    (.q (.o [.mv 57 (.t 10),
      .lns 58 (.t 57),
      .bn 59 .gtr (.t 58) (.c (.i .i64 65535))])
    (.i (.t 59) (.q (.o [.bd 60 [(.s []), (.i .i64 0), (.i .i64 0), (.i .i64 0), (.s [])] [],
      .st (.t 8) (.t 60) 5,
      .mv 9 (.c (.i .i64 32))])
    (.r))
    (.k)))))))
    (.o [.bn 61 .add (.t 29) (.c (.i .i64 1)),
      .mv 29 (.t 61)])))))))
    (.q (.o [.mv 62 (.t 0),
      .mv 63 (.t 1),
      .bn 64 .shl (.t 63) (.c (.i .u64 24)),
      .mv 65 (.t 2),
      .bn 66 .or (.t 64) (.t 65),
      .mv 67 (.t 10),
      .bd 68 [(.s []), (.i .i64 0), (.i .i64 0), (.i .i64 0), (.s [])] [(0, 1, (.c (.s [0]))), (1, 1, (.c (.i .i64 41))), (2, 1, (.t 62)), (3, 1, (.t 66)), (4, 1, (.t 67))],
      .st (.t 8) (.t 68) 5,
      .mv 9 (.c (.i .i64 0))])
    (.r)))))⟩
abbrev n_impl_EdnsRecord : Nat := 18
theorem k_impl_EdnsRecord : chkF Go.Proofs.Try.prog c_impl_EdnsRecord 18 = true := by kernel_rfl
/-- loop.example/s01858/laws.eqRR -/
def c_laws_eqRR : Fn := ⟨2, [(.t 4)],
    .q (.o [.lbx 2 (.t 0),
      .lbx 3 (.t 1),
      .mv 4 (.c (.b false))])
    (.q (.q (.o [.fa 5 (.t 2) 0,
      .ld 6 (.t 5) none,
      .fa 7 (.t 3) 0,
      .ld 8 (.t 7) none,
      .bn 9 .neq (.t 6) (.t 8)])
    (.i (.t 9) (.q (.o [.mv 4 (.c (.b false))])
    (.r))
    (.k)))
    (.q (.q (.o [.fa 10 (.t 2) 1,
      .ld 11 (.t 10) none,
      .fa 12 (.t 3) 1,
      .ld 13 (.t 12) none,
      .bn 14 .neq (.t 11) (.t 13)])
    (.i (.t 14) (.q (.o [.mv 4 (.c (.b false))])
    (.r))
    (.k)))
    (.q (.q (.o [.fa 15 (.t 2) 2,
      .ld 16 (.t 15) none,
      .fa 17 (.t 3) 2,
      .ld 18 (.t 17) none,
      .bn 19 .neq (.t 16) (.t 18)])
    (.i (.t 19) (.q (.o [.mv 4 (.c (.b false))])
    (.r))
    (.k)))
    (.q (.q (.o [.fa 20 (.t 2) 3,
      .ld 21 (.t 20) none,
      .fa 22 (.t 3) 3,
      .ld 23 (.t 22) none,
      .bn 24 .neq (.t 21) (.t 23)])
    (.i (.t 24) (.q (.o [.mv 4 (.c (.b false))])
    (.r))
    (.k)))
    (.q (.q (.o [.fa 25 (.t 2) 4,
      .ld 26 (.t 25) none,
      .fa 27 (.t 3) 4,
      .ld 28 (.t 27) none,
      .bn 29 .neq (.t 26) (.t 28)])
    (.i (.t 29) (.q (.o [.mv 4 (.c (.b false))])
    (.r))
    (.k)))
    (.q (.o [.mv 4 (.c (.b true))])
    (.r)))))))⟩
abbrev n_laws_eqRR : Nat := 19
theorem k_laws_eqRR : chkF Go.Proofs.Try.prog c_laws_eqRR 19 = true := by kernel_rfl
/-- loop.example/s01858/laws.eqOption -/
def c_laws_eqOption : Fn := ⟨2, [(.t 4)],
    .q (.o [.lbx 2 (.t 0),
      .lbx 3 (.t 1),
      .mv 4 (.c (.b false))])
    (.q (.q (.o [.fa 5 (.t 2) 0,
      .ld 6 (.t 5) none,
      .fa 7 (.t 3) 0,
      .ld 8 (.t 7) none,
      .bn 9 .neq (.t 6) (.t 8)])
    (.i (.t 9) (.q (.o [.mv 4 (.c (.b false))])
    (.r))
    (.k)))
    (.q (.q (.o [.fa 10 (.t 2) 1,
      .ld 11 (.t 10) none,
      .fa 12 (.t 3) 1,
      .ld 13 (.t 12) none,
      .bn 14 .neq (.t 11) (.t 13)])
    (.i (.t 14) (.q (.o [.mv 4 (.c (.b false))])
    (.r))
    (.k)))
    (.q (.o [.mv 4 (.c (.b true))])
    (.r))))⟩
abbrev n_laws_eqOption : Nat := 37
theorem k_laws_eqOption : chkF Go.Proofs.Try.prog c_laws_eqOption 37 = true := by kernel_rfl
/-- loop.example/s01858/laws.eqOptionS -/
def c_laws_eqOptionS : Fn := ⟨2, [(.t 4)],
    .q (.o [.mv 4 (.c (.b false))])
    (.q (.q (.o [.mv 6 (.t 0),
      .ln 7 (.t 6),
      .mv 8 (.t 1),
      .ln 9 (.t 8),
      .bn 10 .neq (.t 7) (.t 9)])
    (.i (.t 10) (.q (.o [.mv 4 (.c (.b false))])
    (.r))
    (.k)))
    (.q (.q (.o [.mv 5 (.c (.i .i64 0))])
    (.b 0 (.l [0, 1, 5] (.q (.q (.o [.mv 11 (.t 5),
      .mv 12 (.t 0),
      .ln 13 (.t 12),
      .bn 14 .lss (.t 11) (.t 13)])
    (.i (.t 14) (.k)
    (.x 0)))
    (.q (.b 1 (.q (.p [⟨.mv 17 (.t 0), [], false⟩,
      ⟨.mv 18 (.t 5), [], false⟩,
      ⟨.ia 19 (.t 17) (.t 18) 2, [], false⟩,
      ⟨.ld 20 (.t 19) (some 2), [], false⟩,
      ⟨.mv 21 (.t 1), [], false⟩,
      ⟨.mv 22 (.t 5), [], false⟩,
      ⟨.ia 23 (.t 21) (.t 22) 2, [], false⟩,
      ⟨.ld 24 (.t 23) (some 2), [], false⟩,
      ⟨.cl (some 25) 37 [(.t 20), (.t 24)], [], false⟩,
      ⟨.un 26 .not (.t 25), [], false⟩])
    (.i (.t 26) (.q (.o [.mv 4 (.c (.b false))])
    (.r))
    (.k))))
    (.o [.mv 15 (.t 5),
      .bn 16 .add (.t 15) (.c (.i .i64 1)),
      .mv 5 (.t 16)]))))))
    (.q (.o [.mv 4 (.c (.b true))])
    (.r))))⟩
abbrev n_laws_eqOptionS : Nat := 20
theorem k_laws_eqOptionS : chkF Go.Proofs.Try.prog c_laws_eqOptionS 20 = true := by kernel_rfl
/-- loop.example/s01858/laws.FnExactEdnsRecord -/
def c_laws_FnExactEdnsRecord : Fn := ⟨4, [(.t 8)],
    .q (.o [.mv 8 (.c (.b false))])
    (.q (.o [.mv 9 (.c (.i .i64 1048576))])
    (.q (.o [.mv 15 (.t 3),
      .mv 16 (.t 9),
      .cl (some 17) 15 [(.t 15), (.t 16)],
      .mv 9 (.t 17)])
    (.q (.q (.o [.mv 18 (.t 9),
      .bn 19 .lss (.t 18) (.c (.i .i64 0))])
    (.i (.t 19) (.q (.o [.mv 8 (.c (.b true))])
    (.r))
    (.k)))
    (.q (.o [.mv 21 (.t 0),
      .mv 22 (.t 1),
      .mv 23 (.t 2),
      .mv 24 (.t 3),
      .cl (some 25) 17 [(.t 24)],
      .cl (some 26) 16 [(.t 21), (.t 22), (.t 23), (.t 25)],
      .mv 20 (.t 26),
      .ex 27 (.t 20) 0,
      .ex 28 (.t 20) 1,
      .lal 10 (.ag [(.s []), (.i .i64 0), (.i .i64 0), (.i .i64 0), (.s [])]),
      .st (.t 10) (.t 27) 5,
      .mv 11 (.t 28)])
    (.q (.o [.mv 29 (.t 3),
      .cl (some 30) 17 [(.t 29)],
      .mv 12 (.t 30)])
    (.q (.o [.mv 32 (.t 0),
      .mv 33 (.t 1),
      .mv 34 (.t 2),
      .mv 35 (.t 12),
      .cl (some 36) 18 [(.t 32), (.t 33), (.t 34), (.t 35)],
      .mv 31 (.t 36),
      .ex 37 (.t 31) 0,
      .ex 38 (.t 31) 1,
      .lal 13 (.ag [(.s []), (.i .i64 0), (.i .i64 0), (.i .i64 0), (.s [])]),
      .st (.t 13) (.t 37) 5,
      .mv 14 (.t 38)])
    (.q (.q (.o [.ld 39 (.t 13) (some 5),
      .ld 40 (.t 10) (some 5),
      .cl (some 41) 19 [(.t 39), (.t 40)],
      .un 42 .not (.t 41),
      .mv 43 (.t 42),
      .gd 43 false (.mv 44 (.t 14)),
      .gd 43 false (.mv 45 (.t 11)),
      .gd 43 false (.bn 46 .neq (.t 44) (.t 45)),
      .pk 47 (.t 43) (.c (.b true)) (.t 46)])
    (.i (.t 47) (.q (.o [.mv 8 (.c (.b false))])
    (.r))
    (.k)))
    (.q (.q (.o [.mv 48 (.t 12),
      .mv 49 (.t 3),
      .cl (some 50) 17 [(.t 49)],
      .cl (some 51) 20 [(.t 48), (.t 50)],
      .un 52 .not (.t 51)])
    (.i (.t 52) (.q (.o [.mv 8 (.c (.b false))])
    (.r))
    (.k)))
    (.q (.o [.mv 8 (.c (.b true))])
    (.r))))))))))⟩
abbrev n_laws_FnExactEdnsRecord : Nat := 4
theorem k_laws_FnExactEdnsRecord : chkF Go.Proofs.Try.prog c_laws_FnExactEdnsRecord 4 = true := by kernel_rfl
theorem mixed : Go.Proofs.Try.prog.follows .mixedOrders = true := by kernel_rfl
end Go.Vm
