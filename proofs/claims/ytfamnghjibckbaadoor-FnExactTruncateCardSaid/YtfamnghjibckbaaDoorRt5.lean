import Derived.Test.YtfamnghjibckbaaDoorRt3
import Derived.Test.YtfamnghjibckbaaDoorProg
import Derived.KernelRfl
import Derived.Test.YtfamnghjibckbaaDoorRt4
/- Functions' code as literals of the abstract machine, printed by wip/tools/lits.py; the kernel checks each against the translation. -/
namespace Go.Vm
set_option linter.unusedVariables false
set_option linter.unusedSimpArgs false
/-- loop.example/s01858/impl.ReadEdns -/
def c_impl_ReadEdns : Fn := ⟨1, [(.c 2 (some 5)), (.t 3)],
    .q (.o [.lbx 1 (.t 0),
      .lal 2 (.ag [(.b false), (.i .i64 0), (.i .i64 0), (.i .i64 0), .ns]),
      .mv 3 (.c (.i .i64 0))])
    (.q (.q (.o [.fa 13 (.t 1) 12,
      .ld 14 (.t 13) none,
      .fa 15 (.t 1) 13,
      .ld 16 (.t 15) none,
      .lbs 17 .ns 1 2 [(0, (.t 14)), (1, (.t 16))],
      .ln 18 (.t 17),
      .mv 19 (.c (.i .i64 0))])
    (.b 0 (.l [1, 2, 17, 18, 19] (.q (.o [.bn 20 .lss (.t 19) (.t 18)])
    (.q (.i (.t 20) (.k)
    (.x 0))
    (.q (.b 1 (.q (.o [.ia 21 (.t 17) (.t 19) 1,
      .ld 22 (.t 21) none,
      .mv 5 (.t 22)])
    (.q (.o [.mv 23 (.t 5),
      .ln 24 (.t 23),
      .mv 25 (.c (.i .i64 0))])
    (.b 2 (.l [1, 2, 17, 18, 19, 23, 24, 25] (.q (.o [.bn 26 .lss (.t 25) (.t 24)])
    (.q (.i (.t 26) (.k)
    (.x 2))
    (.q (.b 3 (.q (.o [.ia 27 (.t 23) (.t 25) 5,
      .ld 28 (.t 27) (some 5),
      .lal 7 (.ag [(.s []), (.i .i64 0), (.i .i64 0), (.i .i64 0), (.s [])]),
      .st (.t 7) (.t 28) 5])
    (.q (.o [.fa 29 (.t 7) 1,
      .ld 30 (.t 29) none,
      .bn 31 .eql (.t 30) (.c (.i .i64 41))])
    (.i (.t 31) (.q (.o [.bd 32 [(.b false), (.i .i64 0), (.i .i64 0), (.i .i64 0), .ns] [],
      .st (.t 2) (.t 32) 5,
      .mv 3 (.c (.i .i64 32))])
    (.r))
    (.k)))))
    (.o [.bn 33 .add (.t 25) (.c (.i .i64 1)),
      .mv 25 (.t 33)])))))))))
    (.o [.bn 34 .add (.t 19) (.c (.i .i64 1)),
      .mv 19 (.t 34)])))))))
    (.q (.o [.lal 8 (.ag [(.b false), (.i .i64 0), (.i .i64 0), (.i .i64 0), .ns])])
    (.q (.q (.o [.fa 35 (.t 1) 14,
      .ld 36 (.t 35) none,
      .ln 37 (.t 36),
      .mv 38 (.c (.i .i64 0))])
    (.b 4 (.l [2, 8, 36, 37, 38] (.q (.o [.bn 39 .lss (.t 38) (.t 37)])
    (.q (.i (.t 39) (.k)
    (.x 4))
    (.q (.b 5 (.q (.o [.ia 40 (.t 36) (.t 38) 5,
      .ld 41 (.t 40) (some 5),
      .lal 10 (.ag [(.s []), (.i .i64 0), (.i .i64 0), (.i .i64 0), (.s [])]),
      .st (.t 10) (.t 41) 5])
    (.q (.q (.o [.fa 42 (.t 10) 1,
      .ld 43 (.t 42) none,
      .bn 44 .neq (.t 43) (.c (.i .i64 41))])
    (.i (.t 44) (.x 5)
    (.k)))
    (.q (.q (.o [.fa 45 (.t 8) 0,
      .ld 46 (.t 45) none,
      .mv 47 (.t 46),
      .gd 47 false (.fa 48 (.t 10) 0),
      .gd 47 false (.ld 49 (.t 48) none),
      .gd 47 false (.bn 50 .neq (.t 49) (.c (.s [0]))),
      .pk 51 (.t 47) (.c (.b true)) (.t 50)])
    (.i (.t 51) (.q (.o [.bd 52 [(.b false), (.i .i64 0), (.i .i64 0), (.i .i64 0), .ns] [],
      .st (.t 2) (.t 52) 5,
      .mv 3 (.c (.i .i64 32))])
    (.r))
    (.k)))
    (.q (.o [.fa 53 (.t 10) 2,
      .ld 54 (.t 53) none,
      .fa 55 (.t 10) 3,
      .ld 56 (.t 55) none,
      .bn 57 .shr (.t 56) (.c (.i .u64 16)),
      .bn 58 .and (.t 57) (.c (.i .i64 255)),
      .fa 59 (.t 10) 3,
      .ld 60 (.t 59) none,
      .bn 61 .and (.t 60) (.c (.i .i64 65535)),
      .bd 62 [(.b false), (.i .i64 0), (.i .i64 0), (.i .i64 0), .ns] [(0, 1, (.c (.b true))), (1, 1, (.t 54)), (2, 1, (.t 58)), (3, 1, (.t 61))],
      .st (.t 8) (.t 62) 5])
    (.q (.o [.fa 63 (.t 10) 4,
      .ld 64 (.t 63) none,
      .mv 11 (.t 64)])
    (.b 6 (.l [2, 8, 11, 36, 37, 38] (.q (.q (.o [.mv 65 (.t 11),
      .bn 66 .neq (.t 65) (.c (.s []))])
    (.i (.t 66) (.k)
    (.x 6)))
    (.b 7 (.q (.q (.o [.mv 67 (.t 11),
      .lns 68 (.t 67),
      .bn 69 .lss (.t 68) (.c (.i .i64 4))])
    (.i (.t 69) (.q (.o [.bd 70 [(.b false), (.i .i64 0), (.i .i64 0), (.i .i64 0), .ns] [],
      .st (.t 2) (.t 70) 5,
      .mv 3 (.c (.i .i64 32))])
    (.r))
    (.k)))
    (.q (.o [.mv 71 (.t 11),
      .ss 72 (.t 71) (some (.c (.i .i64 2))) none,
      .cl (some 73) 34 [(.t 72)],
      .bn 74 .add (.c (.i .i64 4)) (.t 73),
      .mv 12 (.t 74)])
    (.q (.q (.o [.mv 75 (.t 12),
      .mv 76 (.t 11),
      .lns 77 (.t 76),
      .bn 78 .gtr (.t 75) (.t 77)])
    (.i (.t 78) (.q (.o [.bd 79 [(.b false), (.i .i64 0), (.i .i64 0), (.i .i64 0), .ns] [],
      .st (.t 2) (.t 79) 5,
      .mv 3 (.c (.i .i64 32))])
    (.r))
    (.k)))
    (.q (.p [⟨.fa 80 (.t 8) 4, [], false⟩,
      ⟨.ld 81 (.t 80) none, [], true⟩,
      ⟨.mv 82 (.t 11), [], false⟩,
      ⟨.cl (some 83) 34 [(.t 82)], [1], false⟩,
      ⟨.mv 84 (.t 11), [], false⟩,
      ⟨.mv 85 (.t 12), [], false⟩,
      ⟨.ss 86 (.t 84) (some (.c (.i .i64 4))) (some (.t 85)), [], false⟩,
      ⟨.bd 87 [(.i .i64 0), (.s [])] [(0, 1, (.t 83)), (1, 1, (.t 86))], [], false⟩,
      ⟨.lbs 88 (.ag [(.i .i64 0), (.s [])]) 2 1 [(0, (.t 87))], [1], false⟩,
      ⟨.ap 89 (.t 81) (.t 88) 2 24, [], false⟩,
      ⟨.fa 90 (.t 8) 4, [], false⟩,
      ⟨.st (.t 90) (.t 89) 1, [], false⟩])
    (.o [.mv 91 (.t 11),
      .mv 92 (.t 12),
      .ss 93 (.t 91) (some (.t 92)) none,
      .mv 11 (.t 93)])))))))))))))))
    (.o [.bn 94 .add (.t 38) (.c (.i .i64 1)),
      .mv 38 (.t 94)])))))))
    (.q (.o [.ld 95 (.t 8) (some 5),
      .st (.t 2) (.t 95) 5,
      .mv 3 (.c (.i .i64 0))])
    (.r)))))⟩
abbrev n_impl_ReadEdns : Nat := 11
theorem k_impl_ReadEdns : chkF Go.Proofs.Tryd.prog c_impl_ReadEdns 11 = true := by kernel_rfl
/-- loop.example/s01858/laws.szMessage -/
def c_laws_szMessage : Fn := ⟨2, [(.t 4)],
    .q (.o [.lbx 2 (.t 0),
      .mv 4 (.c (.i .i64 0))])
    (.q (.o [.fa 5 (.t 2) 11,
      .ld 6 (.t 5) none,
      .mv 7 (.t 1),
      .cl (some 8) 37 [(.t 6), (.t 7)],
      .mv 1 (.t 8)])
    (.q (.q (.o [.mv 9 (.t 1),
      .bn 10 .lss (.t 9) (.c (.i .i64 0))])
    (.i (.t 10) (.q (.o [.mv 4 (.c (.i .i64 (-1)))])
    (.r))
    (.k)))
    (.q (.o [.fa 11 (.t 2) 12,
      .ld 12 (.t 11) none,
      .mv 13 (.t 1),
      .cl (some 14) 38 [(.t 12), (.t 13)],
      .mv 1 (.t 14)])
    (.q (.q (.o [.mv 15 (.t 1),
      .bn 16 .lss (.t 15) (.c (.i .i64 0))])
    (.i (.t 16) (.q (.o [.mv 4 (.c (.i .i64 (-1)))])
    (.r))
    (.k)))
    (.q (.o [.fa 17 (.t 2) 13,
      .ld 18 (.t 17) none,
      .mv 19 (.t 1),
      .cl (some 20) 38 [(.t 18), (.t 19)],
      .mv 1 (.t 20)])
    (.q (.q (.o [.mv 21 (.t 1),
      .bn 22 .lss (.t 21) (.c (.i .i64 0))])
    (.i (.t 22) (.q (.o [.mv 4 (.c (.i .i64 (-1)))])
    (.r))
    (.k)))
    (.q (.o [.fa 23 (.t 2) 14,
      .ld 24 (.t 23) none,
      .mv 25 (.t 1),
      .cl (some 26) 38 [(.t 24), (.t 25)],
      .mv 1 (.t 26)])
    (.q (.q (.o [.mv 27 (.t 1),
      .bn 28 .lss (.t 27) (.c (.i .i64 0))])
    (.i (.t 28) (.q (.o [.mv 4 (.c (.i .i64 (-1)))])
    (.r))
    (.k)))
    (.q (.o [.mv 29 (.t 1),
      .mv 4 (.t 29)])
    (.r))))))))))⟩
abbrev n_laws_szMessage : Nat := 12
theorem k_laws_szMessage : chkF Go.Proofs.Tryd.prog c_laws_szMessage 12 = true := by kernel_rfl
/-- loop.example/s01858/laws.toMessage -/
def c_laws_toMessage : Fn := ⟨1, [(.c 2 (some 15))],
    .q (.o [.lbx 1 (.t 0),
      .lal 2 (.ag [(.i .i64 0), (.b false), (.i .i64 0), (.b false), (.b false), (.b false), (.b false), (.b false), (.b false), (.b false), (.i .i64 0), .ns, .ns, .ns, .ns])])
    (.q (.o [.lal 3 (.ag [(.i .i64 0), (.b false), (.i .i64 0), (.b false), (.b false), (.b false), (.b false), (.b false), (.b false), (.b false), (.i .i64 0), .ns, .ns, .ns, .ns])])
    (.q (.o [.fa 4 (.t 1) 0,
      .ld 5 (.t 4) (some 11),
      .cl (some 6) 42 [(.t 5)],
      .fa 7 (.t 3) 0,
      .st (.t 7) (.t 6) 11])
    (.q (.o [.fa 8 (.t 1) 11,
      .ld 9 (.t 8) none,
      .cl (some 10) 43 [(.t 9)],
      .fa 11 (.t 3) 11,
      .st (.t 11) (.t 10) 1])
    (.q (.o [.fa 12 (.t 1) 12,
      .ld 13 (.t 12) none,
      .cl (some 14) 44 [(.t 13)],
      .fa 15 (.t 3) 12,
      .st (.t 15) (.t 14) 1])
    (.q (.o [.fa 16 (.t 1) 13,
      .ld 17 (.t 16) none,
      .cl (some 18) 44 [(.t 17)],
      .fa 19 (.t 3) 13,
      .st (.t 19) (.t 18) 1])
    (.q (.o [.fa 20 (.t 1) 14,
      .ld 21 (.t 20) none,
      .cl (some 22) 44 [(.t 21)],
      .fa 23 (.t 3) 14,
      .st (.t 23) (.t 22) 1])
    (.q (.o [.ld 24 (.t 3) (some 15),
      .st (.t 2) (.t 24) 15])
    (.r))))))))⟩
abbrev n_laws_toMessage : Nat := 14
theorem k_laws_toMessage : chkF Go.Proofs.Tryd.prog c_laws_toMessage 14 = true := by kernel_rfl
/-- loop.example/s01858/laws.eqMessage -/
def c_laws_eqMessage : Fn := ⟨2, [(.t 4)],
    .q (.o [.lbx 2 (.t 0),
      .lbx 3 (.t 1),
      .mv 4 (.c (.b false))])
    (.q (.q (.o [.fa 5 (.t 2) 0,
      .ld 6 (.t 5) (some 11),
      .fa 7 (.t 3) 0,
      .ld 8 (.t 7) (some 11),
      .cl (some 9) 47 [(.t 6), (.t 8)],
      .un 10 .not (.t 9)])
    (.i (.t 10) (.q (.o [.mv 4 (.c (.b false))])
    (.r))
    (.k)))
    (.q (.q (.o [.fa 11 (.t 2) 11,
      .ld 12 (.t 11) none,
      .fa 13 (.t 3) 11,
      .ld 14 (.t 13) none,
      .cl (some 15) 48 [(.t 12), (.t 14)],
      .un 16 .not (.t 15)])
    (.i (.t 16) (.q (.o [.mv 4 (.c (.b false))])
    (.r))
    (.k)))
    (.q (.q (.o [.fa 17 (.t 2) 12,
      .ld 18 (.t 17) none,
      .fa 19 (.t 3) 12,
      .ld 20 (.t 19) none,
      .cl (some 21) 49 [(.t 18), (.t 20)],
      .un 22 .not (.t 21)])
    (.i (.t 22) (.q (.o [.mv 4 (.c (.b false))])
    (.r))
    (.k)))
    (.q (.q (.o [.fa 23 (.t 2) 13,
      .ld 24 (.t 23) none,
      .fa 25 (.t 3) 13,
      .ld 26 (.t 25) none,
      .cl (some 27) 49 [(.t 24), (.t 26)],
      .un 28 .not (.t 27)])
    (.i (.t 28) (.q (.o [.mv 4 (.c (.b false))])
    (.r))
    (.k)))
    (.q (.q (.o [.fa 29 (.t 2) 14,
      .ld 30 (.t 29) none,
      .fa 31 (.t 3) 14,
      .ld 32 (.t 31) none,
      .cl (some 33) 49 [(.t 30), (.t 32)],
      .un 34 .not (.t 33)])
    (.i (.t 34) (.q (.o [.mv 4 (.c (.b false))])
    (.r))
    (.k)))
    (.q (.o [.mv 4 (.c (.b true))])
    (.r)))))))⟩
abbrev n_laws_eqMessage : Nat := 16
theorem k_laws_eqMessage : chkF Go.Proofs.Tryd.prog c_laws_eqMessage 16 = true := by kernel_rfl
/-- loop.example/s01858/laws.markMessage -/
def c_laws_markMessage : Fn := ⟨2, [(.t 4)],
    .q (.o [.lbx 2 (.t 0),
      .mv 4 (.c (.i .i64 0))])
    (.q (.o [.fa 5 (.t 2) 11,
      .ld 6 (.t 5) none,
      .mv 7 (.t 1),
      .cl (some 8) 50 [(.t 6), (.t 7)],
      .mv 1 (.t 8)])
    (.q (.o [.fa 9 (.t 2) 12,
      .ld 10 (.t 9) none,
      .mv 11 (.t 1),
      .cl (some 12) 51 [(.t 10), (.t 11)],
      .mv 1 (.t 12)])
    (.q (.o [.fa 13 (.t 2) 13,
      .ld 14 (.t 13) none,
      .mv 15 (.t 1),
      .cl (some 16) 51 [(.t 14), (.t 15)],
      .mv 1 (.t 16)])
    (.q (.o [.fa 17 (.t 2) 14,
      .ld 18 (.t 17) none,
      .mv 19 (.t 1),
      .cl (some 20) 51 [(.t 18), (.t 19)],
      .mv 1 (.t 20)])
    (.q (.o [.mv 21 (.t 1),
      .mv 4 (.t 21)])
    (.r))))))⟩
abbrev n_laws_markMessage : Nat := 17
theorem k_laws_markMessage : chkF Go.Proofs.Tryd.prog c_laws_markMessage 17 = true := by kernel_rfl
/-- loop.example/s01858/impl.u16 -/
def c_impl_u16 : Fn := ⟨1, [(.t 2)],
    .q (.o [.mv 2 (.c (.i .i64 0))])
    (.q (.p [⟨.mv 3 (.t 0), [], false⟩,
      ⟨.ix 4 (.t 3) (.c (.i .i64 0)), [], false⟩,
      ⟨.ci 5 .i64 (.t 4), [], false⟩,
      ⟨.bn 6 .shl (.t 5) (.c (.i .u64 8)), [], false⟩,
      ⟨.mv 7 (.t 0), [], false⟩,
      ⟨.ix 8 (.t 7) (.c (.i .i64 1)), [], false⟩,
      ⟨.ci 9 .i64 (.t 8), [], false⟩,
      ⟨.bn 10 .or (.t 6) (.t 9), [], false⟩,
      ⟨.mv 2 (.t 10), [], false⟩])
    (.r))⟩
abbrev n_impl_u16 : Nat := 34
theorem k_impl_u16 : chkF Go.Proofs.Tryd.prog c_impl_u16 34 = true := by kernel_rfl
/-- loop.example/s01858/laws.szQuestionS -/
def c_laws_szQuestionS : Fn := ⟨2, [(.t 4)],
    .q (.o [.mv 4 (.c (.i .i64 0))])
    (.q (.o [.mv 6 (.t 1),
      .mv 7 (.t 0),
      .ln 8 (.t 7),
      .bn 9 .sub (.t 6) (.t 8),
      .mv 1 (.t 9)])
    (.q (.q (.o [.mv 10 (.t 1),
      .bn 11 .lss (.t 10) (.c (.i .i64 0))])
    (.i (.t 11) (.q (.o [.mv 4 (.c (.i .i64 (-1)))])
    (.r))
    (.k)))
    (.q (.q (.o [.mv 5 (.c (.i .i64 0))])
    (.b 0 (.l [0, 1, 5] (.q (.q (.o [.mv 12 (.t 5),
      .mv 13 (.t 0),
      .ln 14 (.t 13),
      .bn 15 .lss (.t 12) (.t 14)])
    (.i (.t 15) (.k)
    (.x 0)))
    (.q (.b 1 (.q (.o [.mv 18 (.t 0),
      .mv 19 (.t 5),
      .ia 20 (.t 18) (.t 19) 3,
      .ld 21 (.t 20) (some 3),
      .mv 22 (.t 1),
      .cl (some 23) 71 [(.t 21), (.t 22)],
      .mv 1 (.t 23)])
    (.q (.o [.mv 24 (.t 1),
      .bn 25 .lss (.t 24) (.c (.i .i64 0))])
    (.i (.t 25) (.q (.o [.mv 4 (.c (.i .i64 (-1)))])
    (.r))
    (.k)))))
    (.o [.mv 16 (.t 5),
      .bn 17 .add (.t 16) (.c (.i .i64 1)),
      .mv 5 (.t 17)]))))))
    (.q (.o [.mv 26 (.t 1),
      .mv 4 (.t 26)])
    (.r)))))⟩
abbrev n_laws_szQuestionS : Nat := 37
theorem k_laws_szQuestionS : chkF Go.Proofs.Tryd.prog c_laws_szQuestionS 37 = true := by kernel_rfl
/-- loop.example/s01858/laws.szRRS -/
def c_laws_szRRS : Fn := ⟨2, [(.t 4)],
    .q (.o [.mv 4 (.c (.i .i64 0))])
    (.q (.o [.mv 6 (.t 1),
      .mv 7 (.t 0),
      .ln 8 (.t 7),
      .bn 9 .sub (.t 6) (.t 8),
      .mv 1 (.t 9)])
    (.q (.q (.o [.mv 10 (.t 1),
      .bn 11 .lss (.t 10) (.c (.i .i64 0))])
    (.i (.t 11) (.q (.o [.mv 4 (.c (.i .i64 (-1)))])
    (.r))
    (.k)))
    (.q (.q (.o [.mv 5 (.c (.i .i64 0))])
    (.b 0 (.l [0, 1, 5] (.q (.q (.o [.mv 12 (.t 5),
      .mv 13 (.t 0),
      .ln 14 (.t 13),
      .bn 15 .lss (.t 12) (.t 14)])
    (.i (.t 15) (.k)
    (.x 0)))
    (.q (.b 1 (.q (.o [.mv 18 (.t 0),
      .mv 19 (.t 5),
      .ia 20 (.t 18) (.t 19) 5,
      .ld 21 (.t 20) (some 5),
      .mv 22 (.t 1),
      .cl (some 23) 72 [(.t 21), (.t 22)],
      .mv 1 (.t 23)])
    (.q (.o [.mv 24 (.t 1),
      .bn 25 .lss (.t 24) (.c (.i .i64 0))])
    (.i (.t 25) (.q (.o [.mv 4 (.c (.i .i64 (-1)))])
    (.r))
    (.k)))))
    (.o [.mv 16 (.t 5),
      .bn 17 .add (.t 16) (.c (.i .i64 1)),
      .mv 5 (.t 17)]))))))
    (.q (.o [.mv 26 (.t 1),
      .mv 4 (.t 26)])
    (.r)))))⟩
abbrev n_laws_szRRS : Nat := 38
theorem k_laws_szRRS : chkF Go.Proofs.Tryd.prog c_laws_szRRS 38 = true := by kernel_rfl
/-- loop.example/s01858/laws.toHead -/
def c_laws_toHead : Fn := ⟨1, [(.c 2 (some 11))],
    .q (.o [.lbx 1 (.t 0),
      .lal 2 (.ag [(.i .i64 0), (.b false), (.i .i64 0), (.b false), (.b false), (.b false), (.b false), (.b false), (.b false), (.b false), (.i .i64 0)])])
    (.q (.o [.lal 3 (.ag [(.i .i64 0), (.b false), (.i .i64 0), (.b false), (.b false), (.b false), (.b false), (.b false), (.b false), (.b false), (.i .i64 0)])])
    (.q (.o [.fa 4 (.t 1) 0,
      .ld 5 (.t 4) none,
      .fa 6 (.t 3) 0,
      .st (.t 6) (.t 5) 1])
    (.q (.o [.fa 7 (.t 1) 1,
      .ld 8 (.t 7) none,
      .fa 9 (.t 3) 1,
      .st (.t 9) (.t 8) 1])
    (.q (.o [.fa 10 (.t 1) 2,
      .ld 11 (.t 10) none,
      .fa 12 (.t 3) 2,
      .st (.t 12) (.t 11) 1])
    (.q (.o [.fa 13 (.t 1) 3,
      .ld 14 (.t 13) none,
      .fa 15 (.t 3) 3,
      .st (.t 15) (.t 14) 1])
    (.q (.o [.fa 16 (.t 1) 4,
      .ld 17 (.t 16) none,
      .fa 18 (.t 3) 4,
      .st (.t 18) (.t 17) 1])
    (.q (.o [.fa 19 (.t 1) 5,
      .ld 20 (.t 19) none,
      .fa 21 (.t 3) 5,
      .st (.t 21) (.t 20) 1])
    (.q (.o [.fa 22 (.t 1) 6,
      .ld 23 (.t 22) none,
      .fa 24 (.t 3) 6,
      .st (.t 24) (.t 23) 1])
    (.q (.o [.fa 25 (.t 1) 7,
      .ld 26 (.t 25) none,
      .fa 27 (.t 3) 7,
      .st (.t 27) (.t 26) 1])
    (.q (.o [.fa 28 (.t 1) 8,
      .ld 29 (.t 28) none,
      .fa 30 (.t 3) 8,
      .st (.t 30) (.t 29) 1])
    (.q (.o [.fa 31 (.t 1) 9,
      .ld 32 (.t 31) none,
      .fa 33 (.t 3) 9,
      .st (.t 33) (.t 32) 1])
    (.q (.o [.fa 34 (.t 1) 10,
      .ld 35 (.t 34) none,
      .fa 36 (.t 3) 10,
      .st (.t 36) (.t 35) 1])
    (.q (.o [.ld 37 (.t 3) (some 11),
      .st (.t 2) (.t 37) 11])
    (.r))))))))))))))⟩
abbrev n_laws_toHead : Nat := 42
theorem k_laws_toHead : chkF Go.Proofs.Tryd.prog c_laws_toHead 42 = true := by kernel_rfl
/-- loop.example/s01858/laws.toQuestionS -/
def c_laws_toQuestionS : Fn := ⟨1, [(.t 2)],
    .q (.o [.mv 2 (.c .ns)])
    (.q (.o [.mv 5 (.t 0),
      .ln 6 (.t 5),
      .mk 7 (.ag [(.s []), (.i .i64 0), (.i .i64 0)]) 3 32 (.t 6),
      .mv 3 (.t 7)])
    (.q (.q (.o [.mv 4 (.c (.i .i64 0))])
    (.b 0 (.l [0, 3, 4] (.q (.q (.o [.mv 8 (.t 4),
      .mv 9 (.t 0),
      .ln 10 (.t 9),
      .bn 11 .lss (.t 8) (.t 10)])
    (.i (.t 11) (.k)
    (.x 0)))
    (.q (.b 1 (.o [.mv 14 (.t 3),
      .mv 15 (.t 4),
      .mv 16 (.t 0),
      .mv 17 (.t 4),
      .ia 18 (.t 16) (.t 17) 3,
      .ld 19 (.t 18) (some 3),
      .cl (some 20) 78 [(.t 19)],
      .ia 21 (.t 14) (.t 15) 3,
      .st (.t 21) (.t 20) 3]))
    (.o [.mv 12 (.t 4),
      .bn 13 .add (.t 12) (.c (.i .i64 1)),
      .mv 4 (.t 13)]))))))
    (.q (.o [.mv 22 (.t 3),
      .mv 2 (.t 22)])
    (.r))))⟩
abbrev n_laws_toQuestionS : Nat := 43
theorem k_laws_toQuestionS : chkF Go.Proofs.Tryd.prog c_laws_toQuestionS 43 = true := by kernel_rfl
/-- loop.example/s01858/laws.toRRS -/
def c_laws_toRRS : Fn := ⟨1, [(.t 2)],
    .q (.o [.mv 2 (.c .ns)])
    (.q (.o [.mv 5 (.t 0),
      .ln 6 (.t 5),
      .mk 7 (.ag [(.s []), (.i .i64 0), (.i .i64 0), (.i .i64 0), (.s [])]) 5 56 (.t 6),
      .mv 3 (.t 7)])
    (.q (.q (.o [.mv 4 (.c (.i .i64 0))])
    (.b 0 (.l [0, 3, 4] (.q (.q (.o [.mv 8 (.t 4),
      .mv 9 (.t 0),
      .ln 10 (.t 9),
      .bn 11 .lss (.t 8) (.t 10)])
    (.i (.t 11) (.k)
    (.x 0)))
    (.q (.b 1 (.o [.mv 14 (.t 3),
      .mv 15 (.t 4),
      .mv 16 (.t 0),
      .mv 17 (.t 4),
      .ia 18 (.t 16) (.t 17) 5,
      .ld 19 (.t 18) (some 5),
      .cl (some 20) 79 [(.t 19)],
      .ia 21 (.t 14) (.t 15) 5,
      .st (.t 21) (.t 20) 5]))
    (.o [.mv 12 (.t 4),
      .bn 13 .add (.t 12) (.c (.i .i64 1)),
      .mv 4 (.t 13)]))))))
    (.q (.o [.mv 22 (.t 3),
      .mv 2 (.t 22)])
    (.r))))⟩
abbrev n_laws_toRRS : Nat := 44
theorem k_laws_toRRS : chkF Go.Proofs.Tryd.prog c_laws_toRRS 44 = true := by kernel_rfl
/-- loop.example/s01858/laws.eqHead -/
def c_laws_eqHead : Fn := ⟨2, [(.t 4)],
    .q (.o [.lbx 2 (.t 0),
      .lbx 3 (.t 1),
      .mv 4 (.c (.b false))])
    (.q (.q (.o [.fa 5 (.t 2) 0,
      .ld 6 (.t 5) none,
      .fa 7 (.t 3) 0,
      .ld 8 (.t 7) none,
      .bn 9 .neq (.t 6) (.t 8)])
    (.i (.t 9) (.q (.o [.mv 4 (.c (.b false))])
    (.r))
    (.k)))
    (.q (.q (.o [.fa 10 (.t 2) 1,
      .ld 11 (.t 10) none,
      .fa 12 (.t 3) 1,
      .ld 13 (.t 12) none,
      .be 14 true (.t 11) (.t 13)])
    (.i (.t 14) (.q (.o [.mv 4 (.c (.b false))])
    (.r))
    (.k)))
    (.q (.q (.o [.fa 15 (.t 2) 2,
      .ld 16 (.t 15) none,
      .fa 17 (.t 3) 2,
      .ld 18 (.t 17) none,
      .bn 19 .neq (.t 16) (.t 18)])
    (.i (.t 19) (.q (.o [.mv 4 (.c (.b false))])
    (.r))
    (.k)))
    (.q (.q (.o [.fa 20 (.t 2) 3,
      .ld 21 (.t 20) none,
      .fa 22 (.t 3) 3,
      .ld 23 (.t 22) none,
      .be 24 true (.t 21) (.t 23)])
    (.i (.t 24) (.q (.o [.mv 4 (.c (.b false))])
    (.r))
    (.k)))
    (.q (.q (.o [.fa 25 (.t 2) 4,
      .ld 26 (.t 25) none,
      .fa 27 (.t 3) 4,
      .ld 28 (.t 27) none,
      .be 29 true (.t 26) (.t 28)])
    (.i (.t 29) (.q (.o [.mv 4 (.c (.b false))])
    (.r))
    (.k)))
    (.q (.q (.o [.fa 30 (.t 2) 5,
      .ld 31 (.t 30) none,
      .fa 32 (.t 3) 5,
      .ld 33 (.t 32) none,
      .be 34 true (.t 31) (.t 33)])
    (.i (.t 34) (.q (.o [.mv 4 (.c (.b false))])
    (.r))
    (.k)))
    (.q (.q (.o [.fa 35 (.t 2) 6,
      .ld 36 (.t 35) none,
      .fa 37 (.t 3) 6,
      .ld 38 (.t 37) none,
      .be 39 true (.t 36) (.t 38)])
    (.i (.t 39) (.q (.o [.mv 4 (.c (.b false))])
    (.r))
    (.k)))
    (.q (.q (.o [.fa 40 (.t 2) 7,
      .ld 41 (.t 40) none,
      .fa 42 (.t 3) 7,
      .ld 43 (.t 42) none,
      .be 44 true (.t 41) (.t 43)])
    (.i (.t 44) (.q (.o [.mv 4 (.c (.b false))])
    (.r))
    (.k)))
    (.q (.q (.o [.fa 45 (.t 2) 8,
      .ld 46 (.t 45) none,
      .fa 47 (.t 3) 8,
      .ld 48 (.t 47) none,
      .be 49 true (.t 46) (.t 48)])
    (.i (.t 49) (.q (.o [.mv 4 (.c (.b false))])
    (.r))
    (.k)))
    (.q (.q (.o [.fa 50 (.t 2) 9,
      .ld 51 (.t 50) none,
      .fa 52 (.t 3) 9,
      .ld 53 (.t 52) none,
      .be 54 true (.t 51) (.t 53)])
    (.i (.t 54) (.q (.o [.mv 4 (.c (.b false))])
    (.r))
    (.k)))
    (.q (.q (.o [.fa 55 (.t 2) 10,
      .ld 56 (.t 55) none,
      .fa 57 (.t 3) 10,
      .ld 58 (.t 57) none,
      .bn 59 .neq (.t 56) (.t 58)])
    (.i (.t 59) (.q (.o [.mv 4 (.c (.b false))])
    (.r))
    (.k)))
    (.q (.o [.mv 4 (.c (.b true))])
    (.r)))))))))))))⟩
abbrev n_laws_eqHead : Nat := 47
theorem k_laws_eqHead : chkF Go.Proofs.Tryd.prog c_laws_eqHead 47 = true := by kernel_rfl
/-- loop.example/s01858/laws.eqQuestionS -/
def c_laws_eqQuestionS : Fn := ⟨2, [(.t 4)],
    .q (.o [.mv 4 (.c (.b false))])
    (.q (.q (.o [.mv 6 (.t 0),
      .ln 7 (.t 6),
      .mv 8 (.t 1),
      .ln 9 (.t 8),
      .bn 10 .neq (.t 7) (.t 9)])
    (.i (.t 10) (.q (.o [.mv 4 (.c (.b false))])
    (.r))
    (.k)))
    (.q (.q (.o [.mv 5 (.c (.i .i64 0))])
    (.b 0 (.l [0, 1, 5] (.q (.q (.o [.mv 11 (.t 5),
      .mv 12 (.t 0),
      .ln 13 (.t 12),
      .bn 14 .lss (.t 11) (.t 13)])
    (.i (.t 14) (.k)
    (.x 0)))
    (.q (.b 1 (.q (.p [⟨.mv 17 (.t 0), [], false⟩,
      ⟨.mv 18 (.t 5), [], false⟩,
      ⟨.ia 19 (.t 17) (.t 18) 3, [], false⟩,
      ⟨.ld 20 (.t 19) (some 3), [], false⟩,
      ⟨.mv 21 (.t 1), [], false⟩,
      ⟨.mv 22 (.t 5), [], false⟩,
      ⟨.ia 23 (.t 21) (.t 22) 3, [], false⟩,
      ⟨.ld 24 (.t 23) (some 3), [], false⟩,
      ⟨.cl (some 25) 80 [(.t 20), (.t 24)], [], false⟩,
      ⟨.un 26 .not (.t 25), [], false⟩])
    (.i (.t 26) (.q (.o [.mv 4 (.c (.b false))])
    (.r))
    (.k))))
    (.o [.mv 15 (.t 5),
      .bn 16 .add (.t 15) (.c (.i .i64 1)),
      .mv 5 (.t 16)]))))))
    (.q (.o [.mv 4 (.c (.b true))])
    (.r))))⟩
abbrev n_laws_eqQuestionS : Nat := 48
theorem k_laws_eqQuestionS : chkF Go.Proofs.Tryd.prog c_laws_eqQuestionS 48 = true := by kernel_rfl
/-- loop.example/s01858/laws.eqRRS -/
def c_laws_eqRRS : Fn := ⟨2, [(.t 4)],
    .q (.o [.mv 4 (.c (.b false))])
    (.q (.q (.o [.mv 6 (.t 0),
      .ln 7 (.t 6),
      .mv 8 (.t 1),
      .ln 9 (.t 8),
      .bn 10 .neq (.t 7) (.t 9)])
    (.i (.t 10) (.q (.o [.mv 4 (.c (.b false))])
    (.r))
    (.k)))
    (.q (.q (.o [.mv 5 (.c (.i .i64 0))])
    (.b 0 (.l [0, 1, 5] (.q (.q (.o [.mv 11 (.t 5),
      .mv 12 (.t 0),
      .ln 13 (.t 12),
      .bn 14 .lss (.t 11) (.t 13)])
    (.i (.t 14) (.k)
    (.x 0)))
    (.q (.b 1 (.q (.p [⟨.mv 17 (.t 0), [], false⟩,
      ⟨.mv 18 (.t 5), [], false⟩,
      ⟨.ia 19 (.t 17) (.t 18) 5, [], false⟩,
      ⟨.ld 20 (.t 19) (some 5), [], false⟩,
      ⟨.mv 21 (.t 1), [], false⟩,
      ⟨.mv 22 (.t 5), [], false⟩,
      ⟨.ia 23 (.t 21) (.t 22) 5, [], false⟩,
      ⟨.ld 24 (.t 23) (some 5), [], false⟩,
      ⟨.cl (some 25) 81 [(.t 20), (.t 24)], [], false⟩,
      ⟨.un 26 .not (.t 25), [], false⟩])
    (.i (.t 26) (.q (.o [.mv 4 (.c (.b false))])
    (.r))
    (.k))))
    (.o [.mv 15 (.t 5),
      .bn 16 .add (.t 15) (.c (.i .i64 1)),
      .mv 5 (.t 16)]))))))
    (.q (.o [.mv 4 (.c (.b true))])
    (.r))))⟩
abbrev n_laws_eqRRS : Nat := 49
theorem k_laws_eqRRS : chkF Go.Proofs.Tryd.prog c_laws_eqRRS 49 = true := by kernel_rfl
/-- loop.example/s01858/laws.markQuestionS -/
def c_laws_markQuestionS : Fn := ⟨2, [(.t 4)],
    .q (.o [.mv 4 (.c (.i .i64 0))])
    (.q (.q (.o [.mv 5 (.c (.i .i64 0))])
    (.b 0 (.l [0, 1, 5] (.q (.q (.o [.mv 6 (.t 5),
      .mv 7 (.t 0),
      .ln 8 (.t 7),
      .bn 9 .lss (.t 6) (.t 8)])
    (.i (.t 9) (.k)
    (.x 0)))
    (.q (.b 1 (.q (.o [.mv 12 (.t 0),
      .mv 13 (.t 5),
      .mv 14 (.t 1),
      .cl (some 15) 82 [(.t 14)],
      .ia 16 (.t 12) (.t 13) 3,
      .fa 17 (.t 16) 0,
      .st (.t 17) (.t 15) 1])
    (.q (.o [.mv 18 (.t 1),
      .bn 19 .add (.t 18) (.c (.i .i64 1)),
      .mv 1 (.t 19)])
    (.q (.o [.mv 20 (.t 0),
      .mv 21 (.t 5),
      .mv 22 (.t 1),
      .ia 23 (.t 20) (.t 21) 3,
      .fa 24 (.t 23) 1,
      .st (.t 24) (.t 22) 1])
    (.q (.o [.mv 25 (.t 1),
      .bn 26 .add (.t 25) (.c (.i .i64 1)),
      .mv 1 (.t 26)])
    (.q (.o [.mv 27 (.t 0),
      .mv 28 (.t 5),
      .mv 29 (.t 1),
      .ia 30 (.t 27) (.t 28) 3,
      .fa 31 (.t 30) 2,
      .st (.t 31) (.t 29) 1])
    (.o [.mv 32 (.t 1),
      .bn 33 .add (.t 32) (.c (.i .i64 1)),
      .mv 1 (.t 33)])))))))
    (.o [.mv 10 (.t 5),
      .bn 11 .add (.t 10) (.c (.i .i64 1)),
      .mv 5 (.t 11)]))))))
    (.q (.o [.mv 34 (.t 1),
      .mv 4 (.t 34)])
    (.r)))⟩
abbrev n_laws_markQuestionS : Nat := 50
theorem k_laws_markQuestionS : chkF Go.Proofs.Tryd.prog c_laws_markQuestionS 50 = true := by kernel_rfl
/-- loop.example/s01858/laws.markRRS -/
def c_laws_markRRS : Fn := ⟨2, [(.t 4)],
    .q (.o [.mv 4 (.c (.i .i64 0))])
    (.q (.q (.o [.mv 5 (.c (.i .i64 0))])
    (.b 0 (.l [0, 1, 5] (.q (.q (.o [.mv 6 (.t 5),
      .mv 7 (.t 0),
      .ln 8 (.t 7),
      .bn 9 .lss (.t 6) (.t 8)])
    (.i (.t 9) (.k)
    (.x 0)))
    (.q (.b 1 (.q (.o [.mv 12 (.t 0),
      .mv 13 (.t 5),
      .mv 14 (.t 1),
      .cl (some 15) 82 [(.t 14)],
      .ia 16 (.t 12) (.t 13) 5,
      .fa 17 (.t 16) 0,
      .st (.t 17) (.t 15) 1])
    (.q (.o [.mv 18 (.t 1),
      .bn 19 .add (.t 18) (.c (.i .i64 1)),
      .mv 1 (.t 19)])
    (.q (.o [.mv 20 (.t 0),
      .mv 21 (.t 5),
      .mv 22 (.t 1),
      .ia 23 (.t 20) (.t 21) 5,
      .fa 24 (.t 23) 1,
      .st (.t 24) (.t 22) 1])
    (.q (.o [.mv 25 (.t 1),
      .bn 26 .add (.t 25) (.c (.i .i64 1)),
      .mv 1 (.t 26)])
    (.q (.o [.mv 27 (.t 0),
      .mv 28 (.t 5),
      .mv 29 (.t 1),
      .ia 30 (.t 27) (.t 28) 5,
      .fa 31 (.t 30) 2,
      .st (.t 31) (.t 29) 1])
    (.q (.o [.mv 32 (.t 1),
      .bn 33 .add (.t 32) (.c (.i .i64 1)),
      .mv 1 (.t 33)])
    (.q (.o [.mv 34 (.t 0),
      .mv 35 (.t 5),
      .mv 36 (.t 1),
      .ia 37 (.t 34) (.t 35) 5,
      .fa 38 (.t 37) 3,
      .st (.t 38) (.t 36) 1])
    (.q (.o [.mv 39 (.t 1),
      .bn 40 .add (.t 39) (.c (.i .i64 1)),
      .mv 1 (.t 40)])
    (.q (.o [.mv 41 (.t 0),
      .mv 42 (.t 5),
      .mv 43 (.t 1),
      .cl (some 44) 82 [(.t 43)],
      .ia 45 (.t 41) (.t 42) 5,
      .fa 46 (.t 45) 4,
      .st (.t 46) (.t 44) 1])
    (.o [.mv 47 (.t 1),
      .bn 48 .add (.t 47) (.c (.i .i64 1)),
      .mv 1 (.t 48)])))))))))))
    (.o [.mv 10 (.t 5),
      .bn 11 .add (.t 10) (.c (.i .i64 1)),
      .mv 5 (.t 11)]))))))
    (.q (.o [.mv 49 (.t 1),
      .mv 4 (.t 49)])
    (.r)))⟩
abbrev n_laws_markRRS : Nat := 51
theorem k_laws_markRRS : chkF Go.Proofs.Tryd.prog c_laws_markRRS 51 = true := by kernel_rfl
/-- loop.example/s01858/spec.ReadEdns -/
def c_spec_ReadEdns : Fn := ⟨1, [(.c 2 (some 5)), (.t 3)],
    .q (.o [.lbx 1 (.t 0),
      .lal 2 (.ag [(.b false), (.i .i64 0), (.i .i64 0), (.i .i64 0), .ns]),
      .mv 3 (.c (.i .i64 0))])
    (.q (.q (.p [⟨.fa 8 (.t 1) 12, [], false⟩,
      ⟨.ld 9 (.t 8) none, [], false⟩,
      ⟨.cl (some 10) 86 [(.t 9), (.c (.i .i64 41))], [], true⟩,
      ⟨.fa 11 (.t 1) 13, [], false⟩,
      ⟨.ld 12 (.t 11) none, [2], false⟩,
      ⟨.cl (some 13) 86 [(.t 12), (.c (.i .i64 41))], [], false⟩,
      ⟨.bn 14 .add (.t 10) (.t 13), [], false⟩,
      ⟨.bn 15 .gtr (.t 14) (.c (.i .i64 0)), [], false⟩,
      ⟨.mv 16 (.t 15), [], false⟩,
      ⟨.gd 16 false (.fa 17 (.t 1) 14), [], false⟩,
      ⟨.gd 16 false (.ld 18 (.t 17) none), [], false⟩,
      ⟨.gd 16 false (.cl (some 19) 86 [(.t 18), (.c (.i .i64 41))]), [], false⟩,
      ⟨.gd 16 false (.bn 20 .gtr (.t 19) (.c (.i .i64 1))), [], false⟩,
      ⟨.pk 21 (.t 16) (.c (.b true)) (.t 20), [], false⟩])
    (.i (.t 21) (.q (.o [.bd 22 [(.b false), (.i .i64 0), (.i .i64 0), (.i .i64 0), .ns] [],
      .st (.t 2) (.t 22) 5,
      .mv 3 (.c (.i .i64 32))])
    (.r))
    (.k)))
    (.q (.q (.o [.mv 4 (.c (.i .i64 0))])
    (.b 0 (.l [1, 2, 4] (.q (.q (.o [.mv 23 (.t 4),
      .fa 24 (.t 1) 14,
      .ld 25 (.t 24) none,
      .ln 26 (.t 25),
      .bn 27 .lss (.t 23) (.t 26)])
    (.i (.t 27) (.k)
    (.x 0)))
    (.q (.b 1 (.q (.o [.fa 30 (.t 1) 14,
      .ld 31 (.t 30) none,
      .mv 32 (.t 4),
      .ia 33 (.t 31) (.t 32) 5,
      .ld 34 (.t 33) (some 5),
      .lal 5 (.ag [(.s []), (.i .i64 0), (.i .i64 0), (.i .i64 0), (.s [])]),
      .st (.t 5) (.t 34) 5])
    (.q (.q (.o [.fa 35 (.t 5) 1,
      .ld 36 (.t 35) none,
      .bn 37 .neq (.t 36) (.c (.i .i64 41))])
    (.i (.t 37) (.x 1)
    (.k)))
    (.q (.o [.fa 39 (.t 5) 4,
      .ld 40 (.t 39) none,
      .cl (some 41) 87 [(.t 40)],
      .mv 38 (.t 41),
      .ex 42 (.t 38) 0,
      .ex 43 (.t 38) 1,
      .mv 6 (.t 42),
      .mv 7 (.t 43)])
    (.q (.q (.o [.mv 44 (.t 7),
      .un 45 .not (.t 44),
      .mv 46 (.t 45),
      .gd 46 false (.fa 47 (.t 5) 0),
      .gd 46 false (.ld 48 (.t 47) none),
      .gd 46 false (.bn 49 .neq (.t 48) (.c (.s [0]))),
      .pk 50 (.t 46) (.c (.b true)) (.t 49)])
    (.i (.t 50) (.q (.o [.bd 51 [(.b false), (.i .i64 0), (.i .i64 0), (.i .i64 0), .ns] [],
      .st (.t 2) (.t 51) 5,
      .mv 3 (.c (.i .i64 32))])
    (.r))
    (.k)))
    (.q (.o [.fa 52 (.t 5) 2,
      .ld 53 (.t 52) none,
      .fa 54 (.t 5) 3,
      .ld 55 (.t 54) none,
      .bn 56 .shr (.t 55) (.c (.i .u64 16)),
      .bn 57 .and (.t 56) (.c (.i .i64 255)),
      .fa 58 (.t 5) 3,
      .ld 59 (.t 58) none,
      .bn 60 .and (.t 59) (.c (.i .i64 65535)),
      .mv 61 (.t 6),
      .bd 62 [(.b false), (.i .i64 0), (.i .i64 0), (.i .i64 0), .ns] [(0, 1, (.c (.b true))), (1, 1, (.t 53)), (2, 1, (.t 57)), (3, 1, (.t 60)), (4, 1, (.t 61))],
      .st (.t 2) (.t 62) 5,
      .mv 3 (.c (.i .i64 0))])
    (.r)))))))
    (.o [.mv 28 (.t 4),
      .bn 29 .add (.t 28) (.c (.i .i64 1)),
      .mv 4 (.t 29)]))))))
    (.q (.o [.bd 63 [(.b false), (.i .i64 0), (.i .i64 0), (.i .i64 0), .ns] [],
      .st (.t 2) (.t 63) 5,
      .mv 3 (.c (.i .i64 0))])
    (.r))))⟩
abbrev n_spec_ReadEdns : Nat := 56
theorem k_spec_ReadEdns : chkF Go.Proofs.Tryd.prog c_spec_ReadEdns 56 = true := by kernel_rfl
/-- loop.example/s01858/laws.szQuestion -/
def c_laws_szQuestion : Fn := ⟨2, [(.t 4)],
    .q (.o [.lbx 2 (.t 0),
      .mv 4 (.c (.i .i64 0))])
    (.q (.o [.mv 5 (.t 1),
      .fa 6 (.t 2) 0,
      .ld 7 (.t 6) none,
      .lns 8 (.t 7),
      .bn 9 .sub (.t 5) (.t 8),
      .mv 1 (.t 9)])
    (.q (.q (.o [.mv 10 (.t 1),
      .bn 11 .lss (.t 10) (.c (.i .i64 0))])
    (.i (.t 11) (.q (.o [.mv 4 (.c (.i .i64 (-1)))])
    (.r))
    (.k)))
    (.q (.o [.mv 12 (.t 1),
      .mv 4 (.t 12)])
    (.r))))⟩
abbrev n_laws_szQuestion : Nat := 71
theorem k_laws_szQuestion : chkF Go.Proofs.Tryd.prog c_laws_szQuestion 71 = true := by kernel_rfl
/-- loop.example/s01858/laws.szRR -/
def c_laws_szRR : Fn := ⟨2, [(.t 4)],
    .q (.o [.lbx 2 (.t 0),
      .mv 4 (.c (.i .i64 0))])
    (.q (.o [.mv 5 (.t 1),
      .fa 6 (.t 2) 0,
      .ld 7 (.t 6) none,
      .lns 8 (.t 7),
      .bn 9 .sub (.t 5) (.t 8),
      .mv 1 (.t 9)])
    (.q (.q (.o [.mv 10 (.t 1),
      .bn 11 .lss (.t 10) (.c (.i .i64 0))])
    (.i (.t 11) (.q (.o [.mv 4 (.c (.i .i64 (-1)))])
    (.r))
    (.k)))
    (.q (.o [.mv 12 (.t 1),
      .fa 13 (.t 2) 4,
      .ld 14 (.t 13) none,
      .lns 15 (.t 14),
      .bn 16 .sub (.t 12) (.t 15),
      .mv 1 (.t 16)])
    (.q (.q (.o [.mv 17 (.t 1),
      .bn 18 .lss (.t 17) (.c (.i .i64 0))])
    (.i (.t 18) (.q (.o [.mv 4 (.c (.i .i64 (-1)))])
    (.r))
    (.k)))
    (.q (.o [.mv 19 (.t 1),
      .mv 4 (.t 19)])
    (.r))))))⟩
abbrev n_laws_szRR : Nat := 72
theorem k_laws_szRR : chkF Go.Proofs.Tryd.prog c_laws_szRR 72 = true := by kernel_rfl
/-- loop.example/s01858/laws.toQuestion -/
def c_laws_toQuestion : Fn := ⟨1, [(.c 2 (some 3))],
    .q (.o [.lbx 1 (.t 0),
      .lal 2 (.ag [(.s []), (.i .i64 0), (.i .i64 0)])])
    (.q (.o [.lal 3 (.ag [(.s []), (.i .i64 0), (.i .i64 0)])])
    (.q (.o [.fa 4 (.t 1) 0,
      .ld 5 (.t 4) none,
      .fa 6 (.t 3) 0,
      .st (.t 6) (.t 5) 1])
    (.q (.o [.fa 7 (.t 1) 1,
      .ld 8 (.t 7) none,
      .fa 9 (.t 3) 1,
      .st (.t 9) (.t 8) 1])
    (.q (.o [.fa 10 (.t 1) 2,
      .ld 11 (.t 10) none,
      .fa 12 (.t 3) 2,
      .st (.t 12) (.t 11) 1])
    (.q (.o [.ld 13 (.t 3) (some 3),
      .st (.t 2) (.t 13) 3])
    (.r))))))⟩
abbrev n_laws_toQuestion : Nat := 78
theorem k_laws_toQuestion : chkF Go.Proofs.Tryd.prog c_laws_toQuestion 78 = true := by kernel_rfl
/-- loop.example/s01858/laws.toRR -/
def c_laws_toRR : Fn := ⟨1, [(.c 2 (some 5))],
    .q (.o [.lbx 1 (.t 0),
      .lal 2 (.ag [(.s []), (.i .i64 0), (.i .i64 0), (.i .i64 0), (.s [])])])
    (.q (.o [.lal 3 (.ag [(.s []), (.i .i64 0), (.i .i64 0), (.i .i64 0), (.s [])])])
    (.q (.o [.fa 4 (.t 1) 0,
      .ld 5 (.t 4) none,
      .fa 6 (.t 3) 0,
      .st (.t 6) (.t 5) 1])
    (.q (.o [.fa 7 (.t 1) 1,
      .ld 8 (.t 7) none,
      .fa 9 (.t 3) 1,
      .st (.t 9) (.t 8) 1])
    (.q (.o [.fa 10 (.t 1) 2,
      .ld 11 (.t 10) none,
      .fa 12 (.t 3) 2,
      .st (.t 12) (.t 11) 1])
    (.q (.o [.fa 13 (.t 1) 3,
      .ld 14 (.t 13) none,
      .fa 15 (.t 3) 3,
      .st (.t 15) (.t 14) 1])
    (.q (.o [.fa 16 (.t 1) 4,
      .ld 17 (.t 16) none,
      .fa 18 (.t 3) 4,
      .st (.t 18) (.t 17) 1])
    (.q (.o [.ld 19 (.t 3) (some 5),
      .st (.t 2) (.t 19) 5])
    (.r))))))))⟩
abbrev n_laws_toRR : Nat := 79
theorem k_laws_toRR : chkF Go.Proofs.Tryd.prog c_laws_toRR 79 = true := by kernel_rfl
/-- loop.example/s01858/laws.eqQuestion -/
def c_laws_eqQuestion : Fn := ⟨2, [(.t 4)],
    .q (.o [.lbx 2 (.t 0),
      .lbx 3 (.t 1),
      .mv 4 (.c (.b false))])
    (.q (.q (.o [.fa 5 (.t 2) 0,
      .ld 6 (.t 5) none,
      .fa 7 (.t 3) 0,
      .ld 8 (.t 7) none,
      .bn 9 .neq (.t 6) (.t 8)])
    (.i (.t 9) (.q (.o [.mv 4 (.c (.b false))])
    (.r))
    (.k)))
    (.q (.q (.o [.fa 10 (.t 2) 1,
      .ld 11 (.t 10) none,
      .fa 12 (.t 3) 1,
      .ld 13 (.t 12) none,
      .bn 14 .neq (.t 11) (.t 13)])
    (.i (.t 14) (.q (.o [.mv 4 (.c (.b false))])
    (.r))
    (.k)))
    (.q (.q (.o [.fa 15 (.t 2) 2,
      .ld 16 (.t 15) none,
      .fa 17 (.t 3) 2,
      .ld 18 (.t 17) none,
      .bn 19 .neq (.t 16) (.t 18)])
    (.i (.t 19) (.q (.o [.mv 4 (.c (.b false))])
    (.r))
    (.k)))
    (.q (.o [.mv 4 (.c (.b true))])
    (.r)))))⟩
abbrev n_laws_eqQuestion : Nat := 80
theorem k_laws_eqQuestion : chkF Go.Proofs.Tryd.prog c_laws_eqQuestion 80 = true := by kernel_rfl
/-- loop.example/s01858/laws.markText -/
def c_laws_markText : Fn := ⟨1, [(.t 2)],
    .q (.o [.mv 2 (.c (.s []))])
    (.q (.q (.o [.mv 4 (.t 0),
      .bn 5 .leq (.t 4) (.c (.i .i64 0))])
    (.i (.t 5) (.q (.o [.mv 2 (.c (.s [109, 48]))])
    (.r))
    (.k)))
    (.q (.o [.mv 3 (.c (.s []))])
    (.q (.b 0 (.l [0, 3] (.q (.q (.o [.mv 6 (.t 0),
      .bn 7 .gtr (.t 6) (.c (.i .i64 0))])
    (.i (.t 7) (.k)
    (.x 0)))
    (.b 1 (.q (.o [.mv 8 (.t 0),
      .bn 9 .rem (.t 8) (.c (.i .i64 10)),
      .bn 10 .add (.c (.i .i64 48)) (.t 9),
      .ci 11 .u8 (.t 10),
      .bs 12 (.i .u8 0) 1 1 [(0, (.t 11))],
      .cbs 13 (.t 12),
      .mv 14 (.t 3),
      .bn 15 .add (.t 13) (.t 14),
      .mv 3 (.t 15)])
    (.o [.mv 16 (.t 0),
      .bn 17 .quo (.t 16) (.c (.i .i64 10)),
      .mv 0 (.t 17)]))))))
    (.q (.o [.mv 18 (.t 3),
      .bn 19 .add (.c (.s [109])) (.t 18),
      .mv 2 (.t 19)])
    (.r)))))⟩
abbrev n_laws_markText : Nat := 82
theorem k_laws_markText : chkF Go.Proofs.Tryd.prog c_laws_markText 82 = true := by kernel_rfl
/-- loop.example/s01858/spec.l13Count -/
def c_spec_l13Count : Fn := ⟨2, [(.t 4)],
    .q (.o [.mv 4 (.c (.i .i64 0))])
    (.q (.o [.mv 5 (.c (.i .i64 0))])
    (.q (.q (.o [.mv 6 (.c (.i .i64 0))])
    (.b 0 (.l [0, 1, 5, 6] (.q (.q (.o [.mv 7 (.t 6),
      .mv 8 (.t 0),
      .ln 9 (.t 8),
      .bn 10 .lss (.t 7) (.t 9)])
    (.i (.t 10) (.k)
    (.x 0)))
    (.q (.b 1 (.q (.o [.mv 13 (.t 0),
      .mv 14 (.t 6),
      .ia 15 (.t 13) (.t 14) 5,
      .fa 16 (.t 15) 1,
      .ld 17 (.t 16) none,
      .mv 18 (.t 1),
      .bn 19 .eql (.t 17) (.t 18)])
    (.i (.t 19) (.o [.mv 20 (.t 5),
      .bn 21 .add (.t 20) (.c (.i .i64 1)),
      .mv 5 (.t 21)])
    (.k))))
    (.o [.mv 11 (.t 6),
      .bn 12 .add (.t 11) (.c (.i .i64 1)),
      .mv 6 (.t 12)]))))))
    (.q (.o [.mv 22 (.t 5),
      .mv 4 (.t 22)])
    (.r))))⟩
abbrev n_spec_l13Count : Nat := 86
theorem k_spec_l13Count : chkF Go.Proofs.Tryd.prog c_spec_l13Count 86 = true := by kernel_rfl
/-- loop.example/s01858/spec.l13Options -/
def c_spec_l13Options : Fn := ⟨1, [(.t 2), (.t 3)],
    .q (.o [.mv 2 (.c .ns),
      .mv 3 (.c (.b false))])
    (.q (.o [.bs 6 (.ag [(.i .i64 0), (.s [])]) 2 0 [],
      .mv 4 (.t 6)])
    (.q (.b 0 (.l [0, 4] (.q (.q (.o [.mv 7 (.t 0),
      .bn 8 .neq (.t 7) (.c (.s []))])
    (.i (.t 8) (.k)
    (.x 0)))
    (.b 1 (.q (.q (.o [.mv 9 (.t 0),
      .lns 10 (.t 9),
      .bn 11 .lss (.t 10) (.c (.i .i64 4)),
      .mv 12 (.t 11),
      .gd 12 false (.mv 13 (.t 0)),
      .gd 12 false (.lns 14 (.t 13)),
      .gd 12 false (.bn 15 .sub (.t 14) (.c (.i .i64 4))),
      .gd 12 false (.mv 16 (.t 0)),
      .gd 12 false (.ss 17 (.t 16) (some (.c (.i .i64 2))) (some (.c (.i .i64 4)))),
      .gd 12 false (.cl (some 18) 83 [(.t 17)]),
      .gd 12 false (.bn 19 .lss (.t 15) (.t 18)),
      .pk 20 (.t 12) (.c (.b true)) (.t 19)])
    (.i (.t 20) (.q (.o [.mv 2 (.c .ns),
      .mv 3 (.c (.b false))])
    (.r))
    (.k)))
    (.q (.o [.mv 21 (.t 0),
      .ss 22 (.t 21) (some (.c (.i .i64 2))) (some (.c (.i .i64 4))),
      .cl (some 23) 83 [(.t 22)],
      .bn 24 .add (.c (.i .i64 4)) (.t 23),
      .mv 5 (.t 24)])
    (.q (.p [⟨.mv 25 (.t 4), [], false⟩,
      ⟨.mv 26 (.t 0), [], false⟩,
      ⟨.ss 27 (.t 26) none (some (.c (.i .i64 2))), [], false⟩,
      ⟨.cl (some 28) 83 [(.t 27)], [], false⟩,
      ⟨.mv 29 (.t 0), [], false⟩,
      ⟨.mv 30 (.t 5), [], false⟩,
      ⟨.ss 31 (.t 29) (some (.c (.i .i64 4))) (some (.t 30)), [], false⟩,
      ⟨.bd 32 [(.i .i64 0), (.s [])] [(0, 1, (.t 28)), (1, 1, (.t 31))], [], false⟩,
      ⟨.lbs 33 (.ag [(.i .i64 0), (.s [])]) 2 1 [(0, (.t 32))], [], false⟩,
      ⟨.ap 34 (.t 25) (.t 33) 2 24, [], false⟩,
      ⟨.mv 4 (.t 34), [], false⟩])
    (.o [.mv 35 (.t 0),
      .mv 36 (.t 5),
      .ss 37 (.t 35) (some (.t 36)) none,
      .mv 0 (.t 37)]))))))))
    (.q (.o [.mv 38 (.t 4),
      .mv 2 (.t 38),
      .mv 3 (.c (.b true))])
    (.r))))⟩
abbrev n_spec_l13Options : Nat := 87
theorem k_spec_l13Options : chkF Go.Proofs.Tryd.prog c_spec_l13Options 87 = true := by kernel_rfl
/-- loop.example/s01858/laws.FnExactReadEdns (not in this seat) -/
def c_laws_FnExactReadEdns : Fn := ⟨1, [(.t 2)],
    .q (.o [.lbx 1 (.t 0),
      .mv 2 (.c (.b false))])
    (.q (.o [.mv 3 (.c (.i .i64 1048576))])
    (.q (.o [.ld 14 (.t 1) (some 15),
      .mv 15 (.t 3),
      .cl (some 16) 21 [(.t 14), (.t 15)],
      .mv 3 (.t 16)])
    (.q (.q (.o [.mv 17 (.t 3),
      .bn 18 .lss (.t 17) (.c (.i .i64 0))])
    (.i (.t 18) (.q (.o [.mv 2 (.c (.b true))])
    (.r))
    (.k)))
    (.q (.o [.ld 20 (.t 1) (some 15),
      .cl (some 21) 23 [(.t 20)],
      .cl (some 22) 22 [(.t 21)],
      .mv 19 (.t 22),
      .ex 23 (.t 19) 0,
      .ex 24 (.t 19) 1,
      .lal 4 (.ag [(.b false), (.i .i64 0), (.i .i64 0), (.i .i64 0), .ns]),
      .st (.t 4) (.t 23) 5,
      .mv 5 (.t 24)])
    (.q (.o [.ld 25 (.t 1) (some 15),
      .cl (some 26) 23 [(.t 25)],
      .lal 6 (.ag [(.i .i64 0), (.b false), (.i .i64 0), (.b false), (.b false), (.b false), (.b false), (.b false), (.b false), (.b false), (.i .i64 0), .ns, .ns, .ns, .ns]),
      .st (.t 6) (.t 26) 15])
    (.q (.o [.ld 28 (.t 6) (some 15),
      .cl (some 29) 24 [(.t 28)],
      .mv 27 (.t 29),
      .ex 30 (.t 27) 0,
      .ex 31 (.t 27) 1,
      .lal 7 (.ag [(.b false), (.i .i64 0), (.i .i64 0), (.i .i64 0), .ns]),
      .st (.t 7) (.t 30) 5,
      .mv 8 (.t 31)])
    (.q (.q (.o [.ld 32 (.t 7) (some 5),
      .ld 33 (.t 4) (some 5),
      .cl (some 34) 25 [(.t 32), (.t 33)],
      .un 35 .not (.t 34),
      .mv 36 (.t 35),
      .gd 36 false (.mv 37 (.t 8)),
      .gd 36 false (.mv 38 (.t 5)),
      .gd 36 false (.bn 39 .neq (.t 37) (.t 38)),
      .pk 40 (.t 36) (.c (.b true)) (.t 39)])
    (.i (.t 40) (.q (.o [.mv 2 (.c (.b false))])
    (.r))
    (.k)))
    (.q (.q (.p [⟨.ld 41 (.t 6) (some 15), [], true⟩,
      ⟨.ld 42 (.t 1) (some 15), [], false⟩,
      ⟨.cl (some 43) 23 [(.t 42)], [0], false⟩,
      ⟨.cl (some 44) 26 [(.t 41), (.t 43)], [], false⟩,
      ⟨.un 45 .not (.t 44), [], false⟩])
    (.i (.t 45) (.q (.o [.mv 2 (.c (.b false))])
    (.r))
    (.k)))
    (.q (.o [.mv 9 (.c (.i .i64 1))])
    (.q (.o [.ld 46 (.t 6) (some 15),
      .mv 47 (.t 9),
      .cl (some 48) 27 [(.t 46), (.t 47)],
      .mv 9 (.t 48)])
    (.q (.q (.o [.mv 49 (.t 9),
      .bn 50 .lss (.t 49) (.c (.i .i64 0)),
      .mv 51 (.t 50),
      .gd 51 false (.ld 52 (.t 7) (some 5)),
      .gd 51 false (.ld 53 (.t 4) (some 5)),
      .gd 51 false (.cl (some 54) 25 [(.t 52), (.t 53)]),
      .gd 51 false (.un 55 .not (.t 54)),
      .pk 56 (.t 51) (.c (.b true)) (.t 55),
      .mv 57 (.t 56),
      .gd 57 false (.mv 58 (.t 8)),
      .gd 57 false (.mv 59 (.t 5)),
      .gd 57 false (.bn 60 .neq (.t 58) (.t 59)),
      .pk 61 (.t 57) (.c (.b true)) (.t 60)])
    (.i (.t 61) (.q (.o [.mv 2 (.c (.b false))])
    (.r))
    (.k)))
    (.q (.o [.mv 10 (.c (.i .i64 1))])
    (.q (.o [.ld 62 (.t 7) (some 5),
      .mv 63 (.t 10),
      .cl (some 64) 28 [(.t 62), (.t 63)],
      .mv 10 (.t 64)])
    (.q (.o [.mv 11 (.c (.i .i64 1))])
    (.q (.o [.ld 65 (.t 7) (some 5),
      .mv 66 (.t 11),
      .cl (some 67) 29 [(.t 65), (.t 66)],
      .mv 11 (.t 67)])
    (.q (.q (.o [.mv 68 (.t 11),
      .bn 69 .lss (.t 68) (.c (.i .i64 0))])
    (.i (.t 69) (.q (.o [.mv 2 (.c (.b false))])
    (.r))
    (.k)))
    (.q (.q (.o [.mv 70 (.t 11),
      .mv 71 (.t 10),
      .bn 72 .neq (.t 70) (.t 71)])
    (.i (.t 72) (.q (.o [.mv 2 (.c (.b false))])
    (.r))
    (.k)))
    (.q (.o [.ld 74 (.t 1) (some 15),
      .cl (some 75) 23 [(.t 74)],
      .cl (some 76) 24 [(.t 75)],
      .mv 73 (.t 76),
      .ex 77 (.t 73) 0,
      .ex 78 (.t 73) 1,
      .lal 12 (.ag [(.b false), (.i .i64 0), (.i .i64 0), (.i .i64 0), .ns]),
      .st (.t 12) (.t 77) 5,
      .mv 13 (.t 78)])
    (.q (.q (.o [.ld 79 (.t 12) (some 5),
      .ld 80 (.t 4) (some 5),
      .cl (some 81) 25 [(.t 79), (.t 80)],
      .un 82 .not (.t 81),
      .mv 83 (.t 82),
      .gd 83 false (.mv 84 (.t 13)),
      .gd 83 false (.mv 85 (.t 5)),
      .gd 83 false (.bn 86 .neq (.t 84) (.t 85)),
      .pk 87 (.t 83) (.c (.b true)) (.t 86)])
    (.i (.t 87) (.q (.o [.mv 2 (.c (.b false))])
    (.r))
    (.k)))
    (.q (.o [.mv 11 (.c (.i .i64 1))])
    (.q (.o [.ld 88 (.t 7) (some 5),
      .mv 89 (.t 11),
      .cl (some 90) 29 [(.t 88), (.t 89)],
      .mv 11 (.t 90)])
    (.q (.q (.o [.mv 91 (.t 11),
      .bn 92 .lss (.t 91) (.c (.i .i64 0))])
    (.i (.t 92) (.q (.o [.mv 2 (.c (.b false))])
    (.r))
    (.k)))
    (.q (.q (.o [.mv 93 (.t 11),
      .mv 94 (.t 10),
      .bn 95 .neq (.t 93) (.t 94)])
    (.i (.t 95) (.q (.o [.mv 2 (.c (.b false))])
    (.r))
    (.k)))
    (.q (.o [.mv 2 (.c (.b true))])
    (.r)))))))))))))))))))))))))⟩
abbrev n_laws_FnExactReadEdns : Nat := 10005
/-- loop.example/s01858/laws.eqEdns (not in this seat) -/
def c_laws_eqEdns : Fn := ⟨2, [(.t 4)],
    .q (.o [.lbx 2 (.t 0),
      .lbx 3 (.t 1),
      .mv 4 (.c (.b false))])
    (.q (.q (.o [.fa 5 (.t 2) 0,
      .ld 6 (.t 5) none,
      .fa 7 (.t 3) 0,
      .ld 8 (.t 7) none,
      .be 9 true (.t 6) (.t 8)])
    (.i (.t 9) (.q (.o [.mv 4 (.c (.b false))])
    (.r))
    (.k)))
    (.q (.q (.o [.fa 10 (.t 2) 1,
      .ld 11 (.t 10) none,
      .fa 12 (.t 3) 1,
      .ld 13 (.t 12) none,
      .bn 14 .neq (.t 11) (.t 13)])
    (.i (.t 14) (.q (.o [.mv 4 (.c (.b false))])
    (.r))
    (.k)))
    (.q (.q (.o [.fa 15 (.t 2) 2,
      .ld 16 (.t 15) none,
      .fa 17 (.t 3) 2,
      .ld 18 (.t 17) none,
      .bn 19 .neq (.t 16) (.t 18)])
    (.i (.t 19) (.q (.o [.mv 4 (.c (.b false))])
    (.r))
    (.k)))
    (.q (.q (.o [.fa 20 (.t 2) 3,
      .ld 21 (.t 20) none,
      .fa 22 (.t 3) 3,
      .ld 23 (.t 22) none,
      .bn 24 .neq (.t 21) (.t 23)])
    (.i (.t 24) (.q (.o [.mv 4 (.c (.b false))])
    (.r))
    (.k)))
    (.q (.q (.o [.fa 25 (.t 2) 4,
      .ld 26 (.t 25) none,
      .fa 27 (.t 3) 4,
      .ld 28 (.t 27) none,
      .cl (some 29) 20 [(.t 26), (.t 28)],
      .un 30 .not (.t 29)])
    (.i (.t 30) (.q (.o [.mv 4 (.c (.b false))])
    (.r))
    (.k)))
    (.q (.o [.mv 4 (.c (.b true))])
    (.r)))))))⟩
abbrev n_laws_eqEdns : Nat := 100025
/-- loop.example/s01858/laws.markEdns (not in this seat) -/
def c_laws_markEdns : Fn := ⟨2, [(.t 4)],
    .q (.o [.lbx 2 (.t 0),
      .mv 4 (.c (.i .i64 0))])
    (.q (.o [.fa 5 (.t 2) 4,
      .ld 6 (.t 5) none,
      .mv 7 (.t 1),
      .cl (some 8) 51 [(.t 6), (.t 7)],
      .mv 1 (.t 8)])
    (.q (.o [.mv 9 (.t 1),
      .mv 4 (.t 9)])
    (.r)))⟩
abbrev n_laws_markEdns : Nat := 100028
/-- loop.example/s01858/laws.heldEdns (not in this seat) -/
def c_laws_heldEdns : Fn := ⟨2, [(.t 4)],
    .q (.o [.lbx 2 (.t 0),
      .mv 4 (.c (.i .i64 0))])
    (.q (.o [.fa 5 (.t 2) 4,
      .ld 6 (.t 5) none,
      .mv 7 (.t 1),
      .cl (some 8) 52 [(.t 6), (.t 7)],
      .mv 1 (.t 8)])
    (.q (.q (.o [.mv 9 (.t 1),
      .bn 10 .lss (.t 9) (.c (.i .i64 0))])
    (.i (.t 10) (.q (.o [.mv 4 (.c (.i .i64 (-1)))])
    (.r))
    (.k)))
    (.q (.o [.mv 11 (.t 1),
      .mv 4 (.t 11)])
    (.r))))⟩
abbrev n_laws_heldEdns : Nat := 100029
/-- loop.example/s01858/laws.markOptionS (not in this seat) -/
def c_laws_markOptionS : Fn := ⟨2, [(.t 4)],
    .q (.o [.mv 4 (.c (.i .i64 0))])
    (.q (.q (.o [.mv 5 (.c (.i .i64 0))])
    (.b 0 (.l [0, 1, 5] (.q (.q (.o [.mv 6 (.t 5),
      .mv 7 (.t 0),
      .ln 8 (.t 7),
      .bn 9 .lss (.t 6) (.t 8)])
    (.i (.t 9) (.k)
    (.x 0)))
    (.q (.b 1 (.q (.o [.mv 12 (.t 0),
      .mv 13 (.t 5),
      .mv 14 (.t 1),
      .ia 15 (.t 12) (.t 13) 2,
      .fa 16 (.t 15) 0,
      .st (.t 16) (.t 14) 1])
    (.q (.o [.mv 17 (.t 1),
      .bn 18 .add (.t 17) (.c (.i .i64 1)),
      .mv 1 (.t 18)])
    (.q (.o [.mv 19 (.t 0),
      .mv 20 (.t 5),
      .mv 21 (.t 1),
      .cl (some 22) 58 [(.t 21)],
      .ia 23 (.t 19) (.t 20) 2,
      .fa 24 (.t 23) 1,
      .st (.t 24) (.t 22) 1])
    (.o [.mv 25 (.t 1),
      .bn 26 .add (.t 25) (.c (.i .i64 1)),
      .mv 1 (.t 26)])))))
    (.o [.mv 10 (.t 5),
      .bn 11 .add (.t 10) (.c (.i .i64 1)),
      .mv 5 (.t 11)]))))))
    (.q (.o [.mv 27 (.t 1),
      .mv 4 (.t 27)])
    (.r)))⟩
abbrev n_laws_markOptionS : Nat := 100051
/-- loop.example/s01858/laws.heldOptionS (not in this seat) -/
def c_laws_heldOptionS : Fn := ⟨2, [(.t 4)],
    .q (.o [.mv 4 (.c (.i .i64 0))])
    (.q (.q (.o [.mv 5 (.c (.i .i64 0))])
    (.b 0 (.l [0, 1, 5] (.q (.q (.o [.mv 6 (.t 5),
      .mv 7 (.t 0),
      .ln 8 (.t 7),
      .bn 9 .lss (.t 6) (.t 8)])
    (.i (.t 9) (.k)
    (.x 0)))
    (.q (.b 1 (.q (.q (.o [.mv 12 (.t 0),
      .mv 13 (.t 5),
      .ia 14 (.t 12) (.t 13) 2,
      .fa 15 (.t 14) 0,
      .ld 16 (.t 15) none,
      .mv 17 (.t 1),
      .bn 18 .neq (.t 16) (.t 17)])
    (.i (.t 18) (.q (.o [.mv 4 (.c (.i .i64 (-1)))])
    (.r))
    (.k)))
    (.q (.o [.mv 19 (.t 1),
      .bn 20 .add (.t 19) (.c (.i .i64 1)),
      .mv 1 (.t 20)])
    (.q (.q (.p [⟨.mv 21 (.t 0), [], false⟩,
      ⟨.mv 22 (.t 5), [], false⟩,
      ⟨.ia 23 (.t 21) (.t 22) 2, [], true⟩,
      ⟨.fa 24 (.t 23) 1, [], false⟩,
      ⟨.ld 25 (.t 24) none, [], true⟩,
      ⟨.mv 26 (.t 1), [], false⟩,
      ⟨.cl (some 27) 58 [(.t 26)], [2, 4], false⟩,
      ⟨.bn 28 .neq (.t 25) (.t 27), [], false⟩])
    (.i (.t 28) (.q (.o [.mv 4 (.c (.i .i64 (-1)))])
    (.r))
    (.k)))
    (.o [.mv 29 (.t 1),
      .bn 30 .add (.t 29) (.c (.i .i64 1)),
      .mv 1 (.t 30)])))))
    (.o [.mv 10 (.t 5),
      .bn 11 .add (.t 10) (.c (.i .i64 1)),
      .mv 5 (.t 11)]))))))
    (.q (.o [.mv 31 (.t 1),
      .mv 4 (.t 31)])
    (.r)))⟩
abbrev n_laws_heldOptionS : Nat := 100052
end Go.Vm

/- Printed by wip/tools/tygen.py: runs of what the laws do with questions, records and options. -/
namespace Go.Vm
set_option linter.unusedVariables false
set_option linter.unusedSimpArgs false
structure Qn where
  n : List UInt8
  t : Int
  c : Int
def eQ : Enc Qn := ⟨3, fun q => [.s q.n, .i .i64 q.t, .i .i64 q.c], fun _ => rfl⟩
def mk_Option (k : Nat) : Opt := ⟨((k + 0 : Nat) : Int), mt (k + 1)⟩
def mk_Question (k : Nat) : Qn := ⟨mt (k + 0), ((k + 1 : Nat) : Int), ((k + 2 : Nat) : Int)⟩
def mk_RR (k : Nat) : Rr := ⟨mt (k + 0), ((k + 1 : Nat) : Int), ((k + 2 : Nat) : Int), ((k + 3 : Nat) : Int), mt (k + 4)⟩
section
variable {C : Tab}
def w_Question (x : Qn) : Nat := x.n.length
def pre_Question (x : Qn) : Prop := x.n.length ≤ 9223372036854775807
theorem r_szQuestion {x : Qn} {left : Int} {H : AH} (h : 0 ≤ left) (hl : left ≤ 1099511627776) (hd : pre_Question x) : Runs C c_laws_szQuestion [eQ.v x, .i .i64 left] H fun v H' => H' = H ∧ v = .i .i64 (if left - w_Question x < 0 then -1 else left - w_Question x) := by
  unfold Runs c_laws_szQuestion w_Question
  unfold pre_Question at hd
  simp -implicitDefEqProofs only [Enc.v, eQ]
  have hw0 : 0 ≤ left → IntKind.i64.wrap (left - (x.n.length : Int)) = (left - (x.n.length : Int)) := fun hc => w64 (by omega) (by omega)
  by_cases hn0 : (left - (x.n.length : Int)) < 0
  · have hw0' := hw0 (by omega)
    simp -implicitDefEqProofs only [bU, reduceIte, Nat.reduceEqDiff, reduceCtorEq, implies_true, forall_const, eq_self, Nat.reduceAdd, Nat.reduceLT, bne_self_eq_false, bT, eq_self, true_implies, false_implies, forall_const, if_true, if_false, Int.reduceToNat, Nat.reduceSub, Int.reduceLE, bV, Nat.reduceAdd, Nat.reduceLT, Nat.reduceLeDiff, Nat.reduceLeDiff, hw0', hn0, endK, rsC, rsV, resV]
    all_goals rw [if_pos (by omega)]
  have hw0' := hw0 (by omega)
  simp -implicitDefEqProofs only [bU, reduceIte, Nat.reduceEqDiff, reduceCtorEq, implies_true, forall_const, eq_self, Nat.reduceAdd, Nat.reduceLT, bne_self_eq_false, bT, eq_self, true_implies, false_implies, forall_const, if_true, if_false, Int.reduceToNat, Nat.reduceSub, Int.reduceLE, bV, Nat.reduceAdd, Nat.reduceLT, Nat.reduceLeDiff, Nat.reduceLeDiff, hw0', hn0, endK, rsC, rsV, resV]
  all_goals rw [if_neg (by omega)]
theorem r_toQuestion {x : Qn} {H : AH} : Runs C c_laws_toQuestion [eQ.v x] H fun v H' => H' = H ∧ v = eQ.v x := by
  unfold Runs c_laws_toQuestion
  simp -implicitDefEqProofs only [Enc.v, eQ, bU, reduceIte, Nat.reduceEqDiff, reduceCtorEq, implies_true, forall_const, eq_self, Nat.reduceAdd, Nat.reduceLT, bne_self_eq_false, bT, eq_self, true_implies, false_implies, forall_const, if_true, if_false, Int.reduceToNat, Nat.reduceSub, Int.reduceLE, bV, Nat.reduceAdd, Nat.reduceLT, Nat.reduceLeDiff, Nat.reduceLeDiff, endK, rsC, rsV, resV]
theorem r_eqQuestion {x : Qn} {H : AH} : Runs C c_laws_eqQuestion [eQ.v x, eQ.v x] H fun v H' => H' = H ∧ v = .b true := by
  unfold Runs c_laws_eqQuestion
  simp -implicitDefEqProofs only [Enc.v, eQ, bU, reduceIte, Nat.reduceEqDiff, reduceCtorEq, implies_true, forall_const, eq_self, Nat.reduceAdd, Nat.reduceLT, bne_self_eq_false, bT, eq_self, true_implies, false_implies, forall_const, if_true, if_false, Int.reduceToNat, Nat.reduceSub, Int.reduceLE, bV, Nat.reduceAdd, Nat.reduceLT, Nat.reduceLeDiff, Nat.reduceLeDiff, endK, rsC, rsV, resV]
def w_RR (x : Rr) : Nat := x.o.length + x.d.length
def pre_RR (x : Rr) : Prop := x.o.length ≤ 9223372036854775807 ∧ x.d.length ≤ 9223372036854775807
theorem r_szRR {x : Rr} {left : Int} {H : AH} (h : 0 ≤ left) (hl : left ≤ 1099511627776) (hd : pre_RR x) : Runs C c_laws_szRR [eR.v x, .i .i64 left] H fun v H' => H' = H ∧ v = .i .i64 (if left - w_RR x < 0 then -1 else left - w_RR x) := by
  unfold Runs c_laws_szRR w_RR
  unfold pre_RR at hd
  simp -implicitDefEqProofs only [Enc.v, eR]
  have hw0 : 0 ≤ left → IntKind.i64.wrap (left - (x.o.length : Int)) = (left - (x.o.length : Int)) := fun hc => w64 (by omega) (by omega)
  by_cases hn0 : (left - (x.o.length : Int)) < 0
  · have hw0' := hw0 (by omega)
    simp -implicitDefEqProofs only [bU, reduceIte, Nat.reduceEqDiff, reduceCtorEq, implies_true, forall_const, eq_self, Nat.reduceAdd, Nat.reduceLT, bne_self_eq_false, bT, eq_self, true_implies, false_implies, forall_const, if_true, if_false, Int.reduceToNat, Nat.reduceSub, Int.reduceLE, bV, Nat.reduceAdd, Nat.reduceLT, Nat.reduceLeDiff, Nat.reduceLeDiff, hw0', hn0, endK, rsC, rsV, resV]
    all_goals rw [if_pos (by omega)]
  have hw0' := hw0 (by omega)
  have hw1 : 0 ≤ (left - (x.o.length : Int)) → IntKind.i64.wrap ((left - (x.o.length : Int)) - (x.d.length : Int)) = ((left - (x.o.length : Int)) - (x.d.length : Int)) := fun hc => w64 (by omega) (by omega)
  by_cases hn1 : ((left - (x.o.length : Int)) - (x.d.length : Int)) < 0
  · have hw1' := hw1 (by omega)
    simp -implicitDefEqProofs only [bU, reduceIte, Nat.reduceEqDiff, reduceCtorEq, implies_true, forall_const, eq_self, Nat.reduceAdd, Nat.reduceLT, bne_self_eq_false, bT, eq_self, true_implies, false_implies, forall_const, if_true, if_false, Int.reduceToNat, Nat.reduceSub, Int.reduceLE, bV, Nat.reduceAdd, Nat.reduceLT, Nat.reduceLeDiff, Nat.reduceLeDiff, hw0', hn0, hw1', hn1, endK, rsC, rsV, resV]
    all_goals rw [if_pos (by omega)]
  have hw1' := hw1 (by omega)
  simp -implicitDefEqProofs only [bU, reduceIte, Nat.reduceEqDiff, reduceCtorEq, implies_true, forall_const, eq_self, Nat.reduceAdd, Nat.reduceLT, bne_self_eq_false, bT, eq_self, true_implies, false_implies, forall_const, if_true, if_false, Int.reduceToNat, Nat.reduceSub, Int.reduceLE, bV, Nat.reduceAdd, Nat.reduceLT, Nat.reduceLeDiff, Nat.reduceLeDiff, hw0', hn0, hw1', hn1, endK, rsC, rsV, resV]
  all_goals rw [if_neg (by omega)]
  rw [show left - ((x.o.length + x.d.length : Nat) : Int) = ((left - (x.o.length : Int)) - (x.d.length : Int)) by omega]
theorem r_toRR {x : Rr} {H : AH} : Runs C c_laws_toRR [eR.v x] H fun v H' => H' = H ∧ v = eR.v x := by
  unfold Runs c_laws_toRR
  simp -implicitDefEqProofs only [Enc.v, eR, bU, reduceIte, Nat.reduceEqDiff, reduceCtorEq, implies_true, forall_const, eq_self, Nat.reduceAdd, Nat.reduceLT, bne_self_eq_false, bT, eq_self, true_implies, false_implies, forall_const, if_true, if_false, Int.reduceToNat, Nat.reduceSub, Int.reduceLE, bV, Nat.reduceAdd, Nat.reduceLT, Nat.reduceLeDiff, Nat.reduceLeDiff, endK, rsC, rsV, resV]
theorem r_markQuestionS {a : AV} {xs : List Qn} {k : Nat} {H : AH} (hM : T_mt C n_laws_markText) (h : Mx H eQ a xs) (hb : k + 3 * xs.length ≤ 1099511627776) : Runs C c_laws_markQuestionS [a, .i .i64 k] H fun v H' => (v = .i .i64 ((k + 3 * xs.length : Nat) : Int) ∧ Mx H' eQ a (mks mk_Question 3 k xs.length)) ∧ Kp (idA a) H H' := by
  unfold Runs c_laws_markQuestionS
  simp -implicitDefEqProofs only [bU, reduceIte, Nat.reduceEqDiff, reduceCtorEq, implies_true, forall_const, eq_self, Nat.reduceAdd, Nat.reduceLT, bne_self_eq_false, bT, eq_self, true_implies, false_implies, forall_const, if_true, if_false, Int.reduceToNat, Nat.reduceSub, Int.reduceLE]
  refine exec_loop (fun n e M => ∃ (i : Nat) (H' : AH) (L : List Lv) (g : Nat), i ≤ xs.length ∧ n = xs.length - i ∧ look e 0 = a ∧ look e 1 = .i .i64 ((k + 3 * i : Nat) : Int) ∧ look e 5 = .i .i64 i ∧ M = ⟨L, g, H'⟩ ∧ Mx H' eQ a (mks mk_Question 3 k i ++ xs.drop i) ∧ Kp (idA a) H H') ?_ (n := xs.length) ⟨0, _, _, _, by omega, by omega, rfl, rfl, rfl, rfl, by simpa [mks] using h, .refl _ _⟩
  rintro n e M ⟨i, H0, L, g, hi, rfl, q0, q1, q5, rfl, m0, hk⟩
  obtain ⟨l1, l2⟩ := Sx.len (Mn.sl m0)
  by_cases hlt : (i : Int) < xs.length
  · have hil : i < xs.length := by omega
    obtain ⟨c1, c2⟩ := mks_cur (mk := mk_Question) (c := 3) (k := k) hil
    rw [c1] at l1
    rw [← c2] at m0
    have hic : i < (mks mk_Question 3 k i ++ xs.drop i).length := by rw [c1]; exact hil
    obtain ⟨G0, t0, u0⟩ := hM (k + 3 * i) H0 (by omega)
    have mm0 := Mn.ext m0 u0
    have kk0 := hk.trans (Kp.ext u0)
    obtain ⟨a0, b0, d0, s0, H1, e0, m1, n0, f0⟩ := Mx.stf (z := 3) mm0 rfl hic (off := 0) (v := .s (mt (k + 3 * i))) (x' := ⟨mt (k + 3 * i + 0), xs[i].t, xs[i].c⟩) (by decide) rfl rfl
    have p0 := kk0.trans (Kp.st n0 f0)
    have w0 : IntKind.i64.wrap (((k + 3 * i : Nat) : Int) + 1) = ((k + 3 * i + 1 : Nat) : Int) := by rw [w64 (by omega) (by omega)]; omega
    obtain ⟨a1, b1, d1, s1, H2, e1, m2, n1, f1⟩ := Mx.stf (z := 3) m1 rfl hic (off := 1) (v := .i .i64 ((k + 3 * i + 1 : Nat) : Int)) (x' := ⟨mt (k + 3 * i + 0), ((k + 3 * i + 1 : Nat) : Int), xs[i].c⟩) (by decide) rfl rfl
    have p1 := p0.trans (Kp.st n1 f1)
    have w1 : IntKind.i64.wrap (((k + 3 * i + 1 : Nat) : Int) + 1) = ((k + 3 * i + 2 : Nat) : Int) := by rw [w64 (by omega) (by omega)]; omega
    obtain ⟨a2, b2, d2, s2, H3, e2, m3, n2, f2⟩ := Mx.stf (z := 3) m2 rfl hic (off := 2) (v := .i .i64 ((k + 3 * i + 2 : Nat) : Int)) (x' := ⟨mt (k + 3 * i + 0), ((k + 3 * i + 1 : Nat) : Int), ((k + 3 * i + 2 : Nat) : Int)⟩) (by decide) rfl rfl
    have p2 := p1.trans (Kp.st n2 f2)
    have w2 : IntKind.i64.wrap (((k + 3 * i + 2 : Nat) : Int) + 1) = ((k + 3 * i + 3 : Nat) : Int) := by rw [w64 (by omega) (by omega)]; omega
    have w9 : IntKind.i64.wrap ((i : Int) + 1) = ((i + 1 : Nat) : Int) := by rw [w64 (by omega) (by omega)]; rfl
    simp -implicitDefEqProofs only [bU, reduceIte, Nat.reduceEqDiff, reduceCtorEq, implies_true, forall_const, eq_self, Nat.reduceAdd, Nat.reduceLT, bne_self_eq_false, bT, eq_self, true_implies, false_implies, forall_const, if_true, if_false, Int.reduceToNat, Nat.reduceSub, Int.reduceLE, q0, q1, q5, l1, l2, hlt, w9, toNat_nat, t0, a0, b0, d0, s0, e0, w0, a1, b1, d1, s1, e1, w1, a2, b2, d2, s2, e2, w2]
    refine ⟨xs.length - (i + 1), by omega, i + 1, H3, _, _, by omega, rfl, by rw [show k + 3 * (i + 1) = k + 3 * i + 3 by omega], rfl, rfl, ?_, p2⟩
    have := mks_step (mk := mk_Question) (c := 3) (k := k) hil
    rw [← this]; exact m3
  · have hil : i = xs.length := by omega
    subst hil
    have hl : (mks mk_Question 3 k xs.length ++ xs.drop xs.length).length = xs.length := by simp [mks]
    rw [hl] at l1
    simp -implicitDefEqProofs only [bU, reduceIte, Nat.reduceEqDiff, reduceCtorEq, implies_true, forall_const, eq_self, Nat.reduceAdd, Nat.reduceLT, bne_self_eq_false, bT, eq_self, true_implies, false_implies, forall_const, if_true, if_false, Int.reduceToNat, Nat.reduceSub, Int.reduceLE, q0, q1, q5, l1, l2, hlt, endK, rsC, rsV, resV]
    exact ⟨by simpa using m0, hk⟩
theorem r_markRRS {a : AV} {xs : List Rr} {k : Nat} {H : AH} (hM : T_mt C n_laws_markText) (h : Mx H eR a xs) (hb : k + 5 * xs.length ≤ 1099511627776) : Runs C c_laws_markRRS [a, .i .i64 k] H fun v H' => (v = .i .i64 ((k + 5 * xs.length : Nat) : Int) ∧ Mx H' eR a (mks mk_RR 5 k xs.length)) ∧ Kp (idA a) H H' := by
  unfold Runs c_laws_markRRS
  simp -implicitDefEqProofs only [bU, reduceIte, Nat.reduceEqDiff, reduceCtorEq, implies_true, forall_const, eq_self, Nat.reduceAdd, Nat.reduceLT, bne_self_eq_false, bT, eq_self, true_implies, false_implies, forall_const, if_true, if_false, Int.reduceToNat, Nat.reduceSub, Int.reduceLE]
  refine exec_loop (fun n e M => ∃ (i : Nat) (H' : AH) (L : List Lv) (g : Nat), i ≤ xs.length ∧ n = xs.length - i ∧ look e 0 = a ∧ look e 1 = .i .i64 ((k + 5 * i : Nat) : Int) ∧ look e 5 = .i .i64 i ∧ M = ⟨L, g, H'⟩ ∧ Mx H' eR a (mks mk_RR 5 k i ++ xs.drop i) ∧ Kp (idA a) H H') ?_ (n := xs.length) ⟨0, _, _, _, by omega, by omega, rfl, rfl, rfl, rfl, by simpa [mks] using h, .refl _ _⟩
  rintro n e M ⟨i, H0, L, g, hi, rfl, q0, q1, q5, rfl, m0, hk⟩
  obtain ⟨l1, l2⟩ := Sx.len (Mn.sl m0)
  by_cases hlt : (i : Int) < xs.length
  · have hil : i < xs.length := by omega
    obtain ⟨c1, c2⟩ := mks_cur (mk := mk_RR) (c := 5) (k := k) hil
    rw [c1] at l1
    rw [← c2] at m0
    have hic : i < (mks mk_RR 5 k i ++ xs.drop i).length := by rw [c1]; exact hil
    obtain ⟨G0, t0, u0⟩ := hM (k + 5 * i) H0 (by omega)
    have mm0 := Mn.ext m0 u0
    have kk0 := hk.trans (Kp.ext u0)
    obtain ⟨a0, b0, d0, s0, H1, e0, m1, n0, f0⟩ := Mx.stf (z := 5) mm0 rfl hic (off := 0) (v := .s (mt (k + 5 * i))) (x' := ⟨mt (k + 5 * i + 0), xs[i].t, xs[i].c, xs[i].ttl, xs[i].d⟩) (by decide) rfl rfl
    have p0 := kk0.trans (Kp.st n0 f0)
    have w0 : IntKind.i64.wrap (((k + 5 * i : Nat) : Int) + 1) = ((k + 5 * i + 1 : Nat) : Int) := by rw [w64 (by omega) (by omega)]; omega
    obtain ⟨a1, b1, d1, s1, H2, e1, m2, n1, f1⟩ := Mx.stf (z := 5) m1 rfl hic (off := 1) (v := .i .i64 ((k + 5 * i + 1 : Nat) : Int)) (x' := ⟨mt (k + 5 * i + 0), ((k + 5 * i + 1 : Nat) : Int), xs[i].c, xs[i].ttl, xs[i].d⟩) (by decide) rfl rfl
    have p1 := p0.trans (Kp.st n1 f1)
    have w1 : IntKind.i64.wrap (((k + 5 * i + 1 : Nat) : Int) + 1) = ((k + 5 * i + 2 : Nat) : Int) := by rw [w64 (by omega) (by omega)]; omega
    obtain ⟨a2, b2, d2, s2, H3, e2, m3, n2, f2⟩ := Mx.stf (z := 5) m2 rfl hic (off := 2) (v := .i .i64 ((k + 5 * i + 2 : Nat) : Int)) (x' := ⟨mt (k + 5 * i + 0), ((k + 5 * i + 1 : Nat) : Int), ((k + 5 * i + 2 : Nat) : Int), xs[i].ttl, xs[i].d⟩) (by decide) rfl rfl
    have p2 := p1.trans (Kp.st n2 f2)
    have w2 : IntKind.i64.wrap (((k + 5 * i + 2 : Nat) : Int) + 1) = ((k + 5 * i + 3 : Nat) : Int) := by rw [w64 (by omega) (by omega)]; omega
    obtain ⟨a3, b3, d3, s3, H4, e3, m4, n3, f3⟩ := Mx.stf (z := 5) m3 rfl hic (off := 3) (v := .i .i64 ((k + 5 * i + 3 : Nat) : Int)) (x' := ⟨mt (k + 5 * i + 0), ((k + 5 * i + 1 : Nat) : Int), ((k + 5 * i + 2 : Nat) : Int), ((k + 5 * i + 3 : Nat) : Int), xs[i].d⟩) (by decide) rfl rfl
    have p3 := p2.trans (Kp.st n3 f3)
    have w3 : IntKind.i64.wrap (((k + 5 * i + 3 : Nat) : Int) + 1) = ((k + 5 * i + 4 : Nat) : Int) := by rw [w64 (by omega) (by omega)]; omega
    obtain ⟨G4, t4, u4⟩ := hM (k + 5 * i + 4) H4 (by omega)
    have mm4 := Mn.ext m4 u4
    have kk4 := p3.trans (Kp.ext u4)
    obtain ⟨a4, b4, d4, s4, H5, e4, m5, n4, f4⟩ := Mx.stf (z := 5) mm4 rfl hic (off := 4) (v := .s (mt (k + 5 * i + 4))) (x' := ⟨mt (k + 5 * i + 0), ((k + 5 * i + 1 : Nat) : Int), ((k + 5 * i + 2 : Nat) : Int), ((k + 5 * i + 3 : Nat) : Int), mt (k + 5 * i + 4)⟩) (by decide) rfl rfl
    have p4 := kk4.trans (Kp.st n4 f4)
    have w4 : IntKind.i64.wrap (((k + 5 * i + 4 : Nat) : Int) + 1) = ((k + 5 * i + 5 : Nat) : Int) := by rw [w64 (by omega) (by omega)]; omega
    have w9 : IntKind.i64.wrap ((i : Int) + 1) = ((i + 1 : Nat) : Int) := by rw [w64 (by omega) (by omega)]; rfl
    simp -implicitDefEqProofs only [bU, reduceIte, Nat.reduceEqDiff, reduceCtorEq, implies_true, forall_const, eq_self, Nat.reduceAdd, Nat.reduceLT, bne_self_eq_false, bT, eq_self, true_implies, false_implies, forall_const, if_true, if_false, Int.reduceToNat, Nat.reduceSub, Int.reduceLE, q0, q1, q5, l1, l2, hlt, w9, toNat_nat, t0, a0, b0, d0, s0, e0, w0, a1, b1, d1, s1, e1, w1, a2, b2, d2, s2, e2, w2, a3, b3, d3, s3, e3, w3, t4, a4, b4, d4, s4, e4, w4]
    refine ⟨xs.length - (i + 1), by omega, i + 1, H5, _, _, by omega, rfl, by rw [show k + 5 * (i + 1) = k + 5 * i + 5 by omega], rfl, rfl, ?_, p4⟩
    have := mks_step (mk := mk_RR) (c := 5) (k := k) hil
    rw [← this]; exact m5
  · have hil : i = xs.length := by omega
    subst hil
    have hl : (mks mk_RR 5 k xs.length ++ xs.drop xs.length).length = xs.length := by simp [mks]
    rw [hl] at l1
    simp -implicitDefEqProofs only [bU, reduceIte, Nat.reduceEqDiff, reduceCtorEq, implies_true, forall_const, eq_self, Nat.reduceAdd, Nat.reduceLT, bne_self_eq_false, bT, eq_self, true_implies, false_implies, forall_const, if_true, if_false, Int.reduceToNat, Nat.reduceSub, Int.reduceLE, q0, q1, q5, l1, l2, hlt, endK, rsC, rsV, resV]
    exact ⟨by simpa using m0, hk⟩
end
end Go.Vm

/- Messages: what the laws do with them (sizes, copies, comparisons, marks). -/
namespace Go.Vm
set_option linter.unusedVariables false
set_option linter.unusedSimpArgs false
structure Hd where
  id : Int
  qr : Bool
  op : Int
  aa : Bool
  tc : Bool
  rd : Bool
  ra : Bool
  z : Bool
  ad : Bool
  cd : Bool
  code : Int
def eH : Enc Hd := ⟨11, fun h => [.i .i64 h.id, .b h.qr, .i .i64 h.op, .b h.aa, .b h.tc, .b h.rd, .b h.ra, .b h.z, .b h.ad, .b h.cd, .i .i64 h.code], fun _ => rfl⟩
structure Msg where
  h : Hd
  q : List Qn
  an : List Rr
  au : List Rr
  ex : List Rr
def mV (h : Hd) (q a b c : AV) : AV := .ag [.i .i64 h.id, .b h.qr, .i .i64 h.op, .b h.aa, .b h.tc, .b h.rd, .b h.ra, .b h.z, .b h.ad, .b h.cd, .i .i64 h.code, q, a, b, c]
structure MsgS (H : AH) (q a b c : AV) (m : Msg) : Prop where
  hq : Sx H eQ q m.q
  ha : Sx H eR a m.an
  hb : Sx H eR b m.au
  hc : Sx H eR c m.ex
def Dj (a b : AV) : Prop := ∀ i, i ∈ idA a → ¬ i ∈ idA b
structure MsgM (H : AH) (n0 : Nat) (q a b c : AV) (m : Msg) : Prop where
  hq : Mx H eQ q m.q
  ha : Mx H eR a m.an
  hb : Mx H eR b m.au
  hc : Mx H eR c m.ex
  qa : Dj q a
  qb : Dj q b
  qc : Dj q c
  ab : Dj a b
  ac : Dj a c
  bc : Dj b c
  ge : ∀ i, i ∈ idA q ++ idA a ++ idA b ++ idA c → n0 ≤ i
section
variable {H H' : AH} {q a b c : AV} {m : Msg} {n0 : Nat}
theorem MsgM.s (h : MsgM H n0 q a b c m) : MsgS H q a b c m := ⟨h.hq.sl, h.ha.sl, h.hb.sl, h.hc.sl⟩
theorem MsgS.ext (h : MsgS H q a b c m) (he : Ext H H') : MsgS H' q a b c m := ⟨Sl.ext h.hq he, Sl.ext h.ha he, Sl.ext h.hb he, Sl.ext h.hc he⟩
theorem MsgM.ext (h : MsgM H n0 q a b c m) (he : Ext H H') : MsgM H' n0 q a b c m := ⟨Mn.ext h.hq he, Mn.ext h.ha he, Mn.ext h.hb he, Mn.ext h.hc he, h.qa, h.qb, h.qc, h.ab, h.ac, h.bc, h.ge⟩
theorem Dj.symm (h : Dj a b) : Dj b a := fun i hi hj => h i hj hi
theorem Dj.of {H1 H2 : AH} {z : Nat} {els : List AV} (h : Mn H1 z a els) (hb : ∀ i, i ∈ idA b → H1.n ≤ i) : Dj a b := fun i hi hj => by
  have := h.lt i hi
  have := hb i hj
  omega
end
/-- A message's bulk: records and letters. -/
def szM (m : Msg) : Nat := (m.q.length + tot' w_Question m.q) + (m.an.length + tot' w_RR m.an) + (m.au.length + tot' w_RR m.au) + (m.ex.length + tot' w_RR m.ex)
structure preM (m : Msg) : Prop where
  q : m.q.length ≤ 9223372036854775807 ∧ ∀ x, x ∈ m.q → pre_Question x
  a : m.an.length ≤ 9223372036854775807 ∧ ∀ x, x ∈ m.an → pre_RR x
  b : m.au.length ≤ 9223372036854775807 ∧ ∀ x, x ∈ m.au → pre_RR x
  c : m.ex.length ≤ 9223372036854775807 ∧ ∀ x, x ∈ m.ex → pre_RR x
def mkM (k : Nat) (m : Msg) : Msg := ⟨m.h, mks mk_Question 3 k m.q.length, mks mk_RR 5 (k + 3 * m.q.length) m.an.length, mks mk_RR 5 (k + 3 * m.q.length + 5 * m.an.length) m.au.length, mks mk_RR 5 (k + 3 * m.q.length + 5 * m.an.length + 5 * m.au.length) m.ex.length⟩
def mkN (k : Nat) (m : Msg) : Nat := k + 3 * m.q.length + 5 * m.an.length + 5 * m.au.length + 5 * m.ex.length
def T_markS {α : Type} (C : Tab) (f : Nat) (E : Enc α) (mk : Nat → α) (z : Nat) : Prop := ∀ (a : AV) (xs : List α) (k : Nat) (H : AH), Mx H E a xs → k + z * xs.length ≤ 1099511627776 → ∃ v H', C f [a, .i .i64 k] H = some (v, H') ∧ (v = .i .i64 ((k + z * xs.length : Nat) : Int) ∧ Mx H' E a (mks mk z k xs.length)) ∧ Kp (idA a) H H'
def T_heldS {α : Type} (C : Tab) (f : Nat) (E : Enc α) (mk : Nat → α) (z : Nat) : Prop := ∀ (a : AV) (k c : Nat) (H : AH), Sx H E a (mks mk z k c) → k + z * c ≤ 1099511627776 → ∃ v H', C f [a, .i .i64 k] H = some (v, H') ∧ v = .i .i64 ((k + z * c : Nat) : Int) ∧ Ext H H'
def T_toMessage (C : Tab) (f : Nat) : Prop := ∀ (q a b c : AV) (m : Msg) (H : AH), MsgS H q a b c m → szM m ≤ 1048576 → ∃ v H', C f [mV m.h q a b c] H = some (v, H') ∧ ∃ q' a' b' c', v = mV m.h q' a' b' c' ∧ Ext H H' ∧ MsgM H' H.n q' a' b' c' m
def T_szMessage (C : Tab) (f : Nat) : Prop := ∀ (q a b c : AV) (m : Msg) (left : Int) (H : AH), MsgS H q a b c m → preM m → 0 ≤ left → left ≤ 1099511627776 → C f [mV m.h q a b c, .i .i64 left] H = some (.i .i64 (if left - szM m < 0 then -1 else left - szM m), H)
def T_eqMessage (C : Tab) (f : Nat) : Prop := ∀ (q a b c q' a' b' c' : AV) (m : Msg) (H : AH), MsgS H q a b c m → MsgS H q' a' b' c' m → szM m ≤ 1048576 → C f [mV m.h q a b c, mV m.h q' a' b' c'] H = some (.b true, H)
def T_markMessage (C : Tab) (f : Nat) : Prop := ∀ (q a b c : AV) (m : Msg) (k n0 : Nat) (H : AH), MsgM H n0 q a b c m → mkN k m ≤ 1099511627776 → ∃ v H', C f [mV m.h q a b c, .i .i64 k] H = some (v, H') ∧ v = .i .i64 (mkN k m) ∧ MsgM H' n0 q a b c (mkM k m) ∧ Kp (idA q ++ idA a ++ idA b ++ idA c) H H'
section
variable {C : Tab}
theorem r_toHead {x : Hd} {H : AH} : Runs C c_laws_toHead [eH.v x] H fun v H' => H' = H ∧ v = eH.v x := by
  unfold Runs c_laws_toHead
  simp -implicitDefEqProofs only [Enc.v, eH, bU, reduceIte, Nat.reduceEqDiff, reduceCtorEq, implies_true, forall_const, eq_self, Nat.reduceAdd, Nat.reduceLT, bne_self_eq_false, bT, eq_self, true_implies, false_implies, forall_const, if_true, if_false, Int.reduceToNat, Nat.reduceSub, Int.reduceLE, bV, Nat.reduceAdd, Nat.reduceLT, Nat.reduceLeDiff, Nat.reduceLeDiff, endK, rsC, rsV, resV]
set_option maxRecDepth 100000 in
theorem r_eqHead {x : Hd} {H : AH} : Runs C c_laws_eqHead [eH.v x, eH.v x] H fun v H' => H' = H ∧ v = .b true := by
  unfold Runs c_laws_eqHead
  simp -implicitDefEqProofs only [Enc.v, eH, bU, reduceIte, Nat.reduceEqDiff, reduceCtorEq, implies_true, forall_const, eq_self, Nat.reduceAdd, Nat.reduceLT, bne_self_eq_false, bT, eq_self, true_implies, false_implies, forall_const, if_true, if_false, Int.reduceToNat, Nat.reduceSub, Int.reduceLE, bV, Nat.reduceAdd, Nat.reduceLT, Nat.reduceLeDiff, Nat.reduceLeDiff, bne_self_eq_false, beq_self_eq_true, Bool.not_true, endK, rsC, rsV, resV]
theorem r_szMessage {q a b c : AV} {m : Msg} {left : Int} {H : AH} (hQ : T_szS C n_laws_szQuestionS eQ w_Question pre_Question) (hR : T_szS C n_laws_szRRS eR w_RR pre_RR) (h : MsgS H q a b c m) (hp : preM m) (h0 : 0 ≤ left) (hl : left ≤ 1099511627776) :
    Runs C c_laws_szMessage [mV m.h q a b c, .i .i64 left] H fun v H' => H' = H ∧ v = .i .i64 (if left - szM m < 0 then -1 else left - szM m) := by
  unfold Runs c_laws_szMessage mV szM
  have o1 := h.hq.out
  have o2 := h.ha.out
  have o3 := h.hb.out
  have o4 := h.hc.out
  have k1 := hQ q m.q left H h.hq h0 hl hp.q.1 hp.q.2
  by_cases h1 : left - m.q.length - tot' w_Question m.q < 0
  · rw [if_pos h1] at k1
    simp -implicitDefEqProofs only [bU, reduceIte, Nat.reduceEqDiff, reduceCtorEq, implies_true, forall_const, eq_self, Nat.reduceAdd, Nat.reduceLT, bne_self_eq_false, bT, eq_self, true_implies, false_implies, forall_const, if_true, if_false, Int.reduceToNat, Nat.reduceSub, Int.reduceLE, bV, Nat.reduceAdd, Nat.reduceLT, Nat.reduceLeDiff, Nat.reduceLeDiff, o1, o2, o3, o4, k1, Int.reduceNeg, Int.reduceLT, endK, rsC, rsV, resV]
    rw [if_pos (by omega)]
  rw [if_neg h1] at k1
  have k2 := hR a m.an _ H h.ha (by omega) (by omega : left - m.q.length - tot' w_Question m.q ≤ 1099511627776) hp.a.1 hp.a.2
  by_cases h2 : left - m.q.length - tot' w_Question m.q - m.an.length - tot' w_RR m.an < 0
  · rw [if_pos h2] at k2
    simp -implicitDefEqProofs only [bU, reduceIte, Nat.reduceEqDiff, reduceCtorEq, implies_true, forall_const, eq_self, Nat.reduceAdd, Nat.reduceLT, bne_self_eq_false, bT, eq_self, true_implies, false_implies, forall_const, if_true, if_false, Int.reduceToNat, Nat.reduceSub, Int.reduceLE, bV, Nat.reduceAdd, Nat.reduceLT, Nat.reduceLeDiff, Nat.reduceLeDiff, o1, o2, o3, o4, k1, h1, k2, Int.reduceNeg, Int.reduceLT, endK, rsC, rsV, resV]
    rw [if_pos (by omega)]
  rw [if_neg h2] at k2
  have k3 := hR b m.au _ H h.hb (by omega) (by omega : left - m.q.length - tot' w_Question m.q - m.an.length - tot' w_RR m.an ≤ 1099511627776) hp.b.1 hp.b.2
  by_cases h3 : left - m.q.length - tot' w_Question m.q - m.an.length - tot' w_RR m.an - m.au.length - tot' w_RR m.au < 0
  · rw [if_pos h3] at k3
    simp -implicitDefEqProofs only [bU, reduceIte, Nat.reduceEqDiff, reduceCtorEq, implies_true, forall_const, eq_self, Nat.reduceAdd, Nat.reduceLT, bne_self_eq_false, bT, eq_self, true_implies, false_implies, forall_const, if_true, if_false, Int.reduceToNat, Nat.reduceSub, Int.reduceLE, bV, Nat.reduceAdd, Nat.reduceLT, Nat.reduceLeDiff, Nat.reduceLeDiff, o1, o2, o3, o4, k1, h1, k2, h2, k3, Int.reduceNeg, Int.reduceLT, endK, rsC, rsV, resV]
    rw [if_pos (by omega)]
  rw [if_neg h3] at k3
  have k4 := hR c m.ex _ H h.hc (by omega) (by omega : left - m.q.length - tot' w_Question m.q - m.an.length - tot' w_RR m.an - m.au.length - tot' w_RR m.au ≤ 1099511627776) hp.c.1 hp.c.2
  by_cases h4 : left - m.q.length - tot' w_Question m.q - m.an.length - tot' w_RR m.an - m.au.length - tot' w_RR m.au - m.ex.length - tot' w_RR m.ex < 0
  · rw [if_pos h4] at k4
    simp -implicitDefEqProofs only [bU, reduceIte, Nat.reduceEqDiff, reduceCtorEq, implies_true, forall_const, eq_self, Nat.reduceAdd, Nat.reduceLT, bne_self_eq_false, bT, eq_self, true_implies, false_implies, forall_const, if_true, if_false, Int.reduceToNat, Nat.reduceSub, Int.reduceLE, bV, Nat.reduceAdd, Nat.reduceLT, Nat.reduceLeDiff, Nat.reduceLeDiff, o1, o2, o3, o4, k1, h1, k2, h2, k3, h3, k4, Int.reduceNeg, Int.reduceLT, endK, rsC, rsV, resV]
    rw [if_pos (by omega)]
  rw [if_neg h4] at k4
  simp -implicitDefEqProofs only [bU, reduceIte, Nat.reduceEqDiff, reduceCtorEq, implies_true, forall_const, eq_self, Nat.reduceAdd, Nat.reduceLT, bne_self_eq_false, bT, eq_self, true_implies, false_implies, forall_const, if_true, if_false, Int.reduceToNat, Nat.reduceSub, Int.reduceLE, bV, Nat.reduceAdd, Nat.reduceLT, Nat.reduceLeDiff, Nat.reduceLeDiff, o1, o2, o3, o4, k1, h1, k2, h2, k3, h3, k4, h4, endK, rsC, rsV, resV]
  rw [if_neg (by omega)]
  congr 1
  omega
theorem r_toMessage {q a b c : AV} {m : Msg} {H : AH} (hH : T_to C n_laws_toHead eH) (hQ : T_toS C n_laws_toQuestionS eQ) (hR : T_toS C n_laws_toRRS eR) (h : MsgS H q a b c m) (hs : szM m ≤ 1048576) :
    Runs C c_laws_toMessage [mV m.h q a b c] H fun v H' => ∃ q' a' b' c', v = mV m.h q' a' b' c' ∧ Ext H H' ∧ MsgM H' H.n q' a' b' c' m := by
  unfold szM at hs
  have o1 := h.hq.out
  have o2 := h.ha.out
  have o3 := h.hb.out
  have o4 := h.hc.out
  have k0 := hH m.h H
  obtain ⟨q', H1, k1, e1, m1, i1⟩ := hQ q m.q H h.hq (by omega)
  obtain ⟨a', H2, k2, e2, m2, i2⟩ := hR a m.an H1 (Sl.ext h.ha e1) (by omega)
  obtain ⟨b', H3, k3, e3, m3, i3⟩ := hR b m.au H2 (Sl.ext h.hb (e1.trans e2)) (by omega)
  obtain ⟨c', H4, k4, e4, m4, i4⟩ := hR c m.ex H3 (Sl.ext h.hc ((e1.trans e2).trans e3)) (by omega)
  have p1 := m1.sl.out
  have p2 := m2.sl.out
  have p3 := m3.sl.out
  have p4 := m4.sl.out
  have r1 := m1.sl.one
  have r2 := m2.sl.one
  have r3 := m3.sl.one
  have r4 := m4.sl.one
  unfold Runs c_laws_toMessage mV
  simp only [Enc.v, eH] at k0
  simp -implicitDefEqProofs only [bU, reduceIte, Nat.reduceEqDiff, reduceCtorEq, implies_true, forall_const, eq_self, Nat.reduceAdd, Nat.reduceLT, bne_self_eq_false, bT, eq_self, true_implies, false_implies, forall_const, if_true, if_false, Int.reduceToNat, Nat.reduceSub, Int.reduceLE, bV, Nat.reduceAdd, Nat.reduceLT, Nat.reduceLeDiff, Nat.reduceLeDiff, o1, o2, o3, o4, p1, p2, p3, p4, r1, r2, r3, r4, k0, k1, k2, k3, k4, endK, rsC, rsV, resV]
  have n1 := e1.n
  have n2 := e2.n
  have n3 := e3.n
  refine ⟨q', a', b', c', rfl, ((e1.trans e2).trans e3).trans e4, ⟨Mn.ext m1 ((e2.trans e3).trans e4), Mn.ext m2 (e3.trans e4), Mn.ext m3 e4, m4, .of (H2 := H1) m1 i2, .of (H2 := H1) m1 (fun i hi => ?_), .of (H2 := H1) m1 (fun i hi => ?_), .of (H2 := H1) m2 i3, .of (H2 := H1) m2 (fun i hi => ?_), .of (H2 := H1) m3 i4, fun i hi => ?_⟩⟩
  · have := i3 i hi; omega
  · have := i4 i hi; omega
  · have := i4 i hi; omega
  · simp only [List.mem_append] at hi
    rcases hi with ((hi | hi) | hi) | hi
    · exact i1 i hi
    · have := i2 i hi; omega
    · have := i3 i hi; omega
    · have := i4 i hi; omega
theorem r_eqMessage {q a b c q' a' b' c' : AV} {m : Msg} {H : AH} (hH : T_eq C n_laws_eqHead eH) (hQ : T_eqS C n_laws_eqQuestionS eQ) (hR : T_eqS C n_laws_eqRRS eR) (h : MsgS H q a b c m) (h' : MsgS H q' a' b' c' m) (hs : szM m ≤ 1048576) :
    Runs C c_laws_eqMessage [mV m.h q a b c, mV m.h q' a' b' c'] H fun v H' => H' = H ∧ v = .b true := by
  unfold szM at hs
  have o1 := h.hq.out
  have o2 := h.ha.out
  have o3 := h.hb.out
  have o4 := h.hc.out
  have p1 := h'.hq.out
  have p2 := h'.ha.out
  have p3 := h'.hb.out
  have p4 := h'.hc.out
  have k0 := hH m.h H
  have k1 := hQ q q' m.q H h.hq h'.hq (by omega)
  have k2 := hR a a' m.an H h.ha h'.ha (by omega)
  have k3 := hR b b' m.au H h.hb h'.hb (by omega)
  have k4 := hR c c' m.ex H h.hc h'.hc (by omega)
  unfold Runs c_laws_eqMessage mV
  simp only [Enc.v, eH] at k0
  simp -implicitDefEqProofs only [bU, reduceIte, Nat.reduceEqDiff, reduceCtorEq, implies_true, forall_const, eq_self, Nat.reduceAdd, Nat.reduceLT, bne_self_eq_false, bT, eq_self, true_implies, false_implies, forall_const, if_true, if_false, Int.reduceToNat, Nat.reduceSub, Int.reduceLE, bV, Nat.reduceAdd, Nat.reduceLT, Nat.reduceLeDiff, Nat.reduceLeDiff, o1, o2, o3, o4, p1, p2, p3, p4, k0, k1, k2, k3, k4, endK, rsC, rsV, resV]
theorem r_markMessage {q a b c : AV} {m : Msg} {k n0 : Nat} {H : AH} (hQ : T_markS C n_laws_markQuestionS eQ mk_Question 3) (hR : T_markS C n_laws_markRRS eR mk_RR 5) (h : MsgM H n0 q a b c m) (hs : mkN k m ≤ 1099511627776) :
    Runs C c_laws_markMessage [mV m.h q a b c, .i .i64 k] H fun v H' => v = .i .i64 (mkN k m) ∧ MsgM H' n0 q a b c (mkM k m) ∧ Kp (idA q ++ idA a ++ idA b ++ idA c) H H' := by
  unfold mkN at hs
  obtain ⟨v1, H1, k1, ⟨rfl, m1⟩, f1⟩ := hQ q m.q k H h.hq (by omega)
  obtain ⟨v2, H2, k2, ⟨rfl, m2⟩, f2⟩ := hR a m.an (k + 3 * m.q.length) H1 (f1.mn h.ha h.qa.symm) (by omega)
  have f12 : Kp (idA q ++ idA a) H H2 := (f1.mono (by simp; intro i hi; exact .inl hi)).trans (f2.mono (by simp; intro i hi; exact .inr hi))
  obtain ⟨v3, H3, k3, ⟨rfl, m3⟩, f3⟩ := hR b m.au (k + 3 * m.q.length + 5 * m.an.length) H2 (f2.mn (f1.mn h.hb h.qb.symm) h.ab.symm) (by omega)
  obtain ⟨v4, H4, k4, ⟨rfl, m4⟩, f4⟩ := hR c m.ex (k + 3 * m.q.length + 5 * m.an.length + 5 * m.au.length) H3 (f3.mn (f2.mn (f1.mn h.hc h.qc.symm) h.ac.symm) h.bc.symm) (by omega)
  have o1 := h.hq.sl.out
  have o2 := h.ha.sl.out
  have o3 := h.hb.sl.out
  have o4 := h.hc.sl.out
  unfold Runs c_laws_markMessage mV
  simp -implicitDefEqProofs only [bU, reduceIte, Nat.reduceEqDiff, reduceCtorEq, implies_true, forall_const, eq_self, Nat.reduceAdd, Nat.reduceLT, bne_self_eq_false, bT, eq_self, true_implies, false_implies, forall_const, if_true, if_false, Int.reduceToNat, Nat.reduceSub, Int.reduceLE, bV, Nat.reduceAdd, Nat.reduceLT, Nat.reduceLeDiff, Nat.reduceLeDiff, o1, o2, o3, o4, k1, k2, k3, k4, endK, rsC, rsV, resV]
  have g1 : ∀ i, i ∈ idA q → i ∈ idA q ++ idA a ++ idA b ++ idA c := fun i hi => by simp [hi]
  have g2 : ∀ i, i ∈ idA a → i ∈ idA q ++ idA a ++ idA b ++ idA c := fun i hi => by simp [hi]
  have g3 : ∀ i, i ∈ idA b → i ∈ idA q ++ idA a ++ idA b ++ idA c := fun i hi => by simp [hi]
  have g4 : ∀ i, i ∈ idA c → i ∈ idA q ++ idA a ++ idA b ++ idA c := fun i hi => by simp [hi]
  refine ⟨rfl, ⟨f4.mn (f3.mn (f2.mn m1 h.qa) h.qb) h.qc, f4.mn (f3.mn m2 h.ab) h.ac, f4.mn m3 h.bc, m4, h.qa, h.qb, h.qc, h.ab, h.ac, h.bc, h.ge⟩, ((((f1.mono g1).trans (f2.mono g2)).trans (f3.mono g3)).trans (f4.mono g4))⟩
theorem r_markText {k : Nat} {H : AH} (hk : k ≤ 1099511627776) : Runs C c_laws_markText [.i .i64 k] H fun v H' => v = .s (mt k) ∧ Ext H H' := by
  unfold Runs c_laws_markText
  by_cases h0 : (k : Int) ≤ 0
  · have : k = 0 := by omega
    subst this
    simp -implicitDefEqProofs only [bU, reduceIte, Nat.reduceEqDiff, reduceCtorEq, implies_true, forall_const, eq_self, Nat.reduceAdd, Nat.reduceLT, bne_self_eq_false, bT, eq_self, true_implies, false_implies, forall_const, if_true, if_false, Int.reduceToNat, Nat.reduceSub, Int.reduceLE, Int.ofNat_eq_natCast, Int.natCast_zero, Int.le_refl, endK, rsC, rsV, resV]
    exact ⟨rfl, .refl _⟩
  · have hk0 : ¬ k = 0 := by omega
    simp -implicitDefEqProofs only [bU, reduceIte, Nat.reduceEqDiff, reduceCtorEq, implies_true, forall_const, eq_self, Nat.reduceAdd, Nat.reduceLT, bne_self_eq_false, bT, eq_self, true_implies, false_implies, forall_const, if_true, if_false, Int.reduceToNat, Nat.reduceSub, Int.reduceLE, h0]
    refine exec_loop (fun n e M => ∃ (j : Nat) (out : List UInt8) (H' : AH) (L : List Lv) (g : Nat), n = j ∧ look e 0 = .i .i64 j ∧ look e 3 = .s out ∧ M = ⟨L, g, H'⟩ ∧ Ext H H' ∧ j ≤ k ∧ out.length + j ≤ k ∧ dgs k [] = dgs j out) ?_ (n := k) ⟨k, [], _, _, _, rfl, rfl, rfl, rfl, .refl _, Nat.le_refl _, by simp, rfl⟩
    rintro n e M ⟨j, out, H', L, g, rfl, q0, q3, rfl, he, hj, hl, hd⟩
    by_cases hj0 : (0 : Int) < n
    · have w1 : (n : Int).tmod 10 = ((n % 10 : Nat) : Int) := by rw [Int.tmod_eq_emod_of_nonneg (by omega)]; omega
      have w2 : IntKind.i64.wrap (48 + ((n % 10 : Nat) : Int)) = ((48 + n % 10 : Nat) : Int) := by rw [w64 (by omega) (by omega)]; omega
      have w3 : (n : Int).tdiv 10 = ((n / 10 : Nat) : Int) := by rw [Int.tdiv_eq_ediv_of_nonneg (by omega)]; omega
      have w4 : IntKind.i64.wrap ((n / 10 : Nat) : Int) = ((n / 10 : Nat) : Int) := w64 (by omega) (by omega)
      have hm : Mb (H'.new (.arr true 0 1 (encB [UInt8.ofNat (48 + n % 10)]))) (.sl H'.n 0 1) [UInt8.ofNat (48 + n % 10)] := Mb.new2 rfl
      obtain ⟨c1, c2⟩ := Byt.cbs hm.sl
      simp only [encB, List.map_cons, List.map_nil] at c1 c2
      have d10 : (10 : Int) ≠ 0 := by decide
      have hlen : 1 + out.length ≤ 9223372036854775807 := by omega
      simp -implicitDefEqProofs only [bU, reduceIte, Nat.reduceEqDiff, reduceCtorEq, implies_true, forall_const, eq_self, Nat.reduceAdd, Nat.reduceLT, bne_self_eq_false, bT, eq_self, true_implies, false_implies, forall_const, if_true, if_false, Int.reduceToNat, Nat.reduceSub, Int.reduceLE, q0, q3, hj0, w1, w2, w3, w4, u8w, d10, fillEC, fillE, List.replicate, List.set, c1, c2, hlen]
      refine ⟨by decide, by decide, n / 10, by omega, n / 10, _, _, _, _, rfl, rfl, rfl, rfl, he.trans (.new _ _), by omega, by simp; omega, ?_⟩
      rw [hd, dgs, dif_neg (by omega)]
      rfl
    · have : n = 0 := by omega
      subst this
      have hlen : 1 + out.length ≤ 9223372036854775807 := by omega
      simp -implicitDefEqProofs only [bU, reduceIte, Nat.reduceEqDiff, reduceCtorEq, implies_true, forall_const, eq_self, Nat.reduceAdd, Nat.reduceLT, bne_self_eq_false, bT, eq_self, true_implies, false_implies, forall_const, if_true, if_false, Int.reduceToNat, Nat.reduceSub, Int.reduceLE, q0, q3, hj0, hlen, endK, rsC, rsV, resV]
      refine ⟨?_, he⟩
      rw [mt, if_neg hk0, hd, dgs, dif_pos rfl]
      rfl
end
end Go.Vm

/- Functions' code as literals of the abstract machine, printed by wip/tools/lits.py; the kernel checks each against the translation. -/
namespace Go.Vm
set_option linter.unusedVariables false
set_option linter.unusedSimpArgs false
/-- loop.example/s01858/impl.Encode -/
def c_impl_Encode : Fn := ⟨1, [(.t 2), (.t 3)],
    .q (.o [.lbx 1 (.t 0),
      .mv 2 (.c .ns),
      .mv 3 (.c (.i .i64 0))])
    (.q (.q (.o [.ld 5 (.t 1) (some 15),
      .cl (some 6) 30 [(.t 5)],
      .un 7 .not (.t 6)])
    (.i (.t 7) (.q (.o [.mv 2 (.c .ns),
      .mv 3 (.c (.i .i64 32))])
    (.r))
    (.k)))
    (.q (.o [.ld 8 (.t 1) (some 15),
      .cl (some 9) 31 [(.t 8)],
      .mv 4 (.t 9)])
    (.q (.q (.o [.mv 10 (.t 4),
      .ln 11 (.t 10),
      .bn 12 .gtr (.t 11) (.c (.i .i64 65535))])
    (.i (.t 12) (.q (.o [.mv 2 (.c .ns),
      .mv 3 (.c (.i .i64 11))])
    (.r))
    (.k)))
    (.q (.o [.mv 13 (.t 4),
      .mv 2 (.t 13),
      .mv 3 (.c (.i .i64 0))])
    (.r)))))⟩
abbrev n_impl_Encode : Nat := 9
theorem k_impl_Encode : chkF Go.Proofs.Tryd.prog c_impl_Encode 9 = true := by kernel_rfl
/-- loop.example/s01858/impl.validMessage -/
def c_impl_validMessage : Fn := ⟨1, [(.t 2)],
    .q (.o [.lbx 1 (.t 0),
      .mv 2 (.c (.b false))])
    (.q (.o [.fa 10 (.t 1) 0,
      .ld 11 (.t 10) (some 11),
      .lal 3 (.ag [(.i .i64 0), (.b false), (.i .i64 0), (.b false), (.b false), (.b false), (.b false), (.b false), (.b false), (.b false), (.i .i64 0)]),
      .st (.t 3) (.t 11) 11])
    (.q (.q (.o [.fa 12 (.t 3) 0,
      .ld 13 (.t 12) none,
      .cl (some 14) 28 [(.t 13), (.c (.i .i64 0)), (.c (.i .i64 65535))],
      .un 15 .not (.t 14),
      .mv 16 (.t 15),
      .gd 16 false (.fa 17 (.t 3) 2),
      .gd 16 false (.ld 18 (.t 17) none),
      .gd 16 false (.cl (some 19) 28 [(.t 18), (.c (.i .i64 0)), (.c (.i .i64 15))]),
      .gd 16 false (.un 20 .not (.t 19)),
      .pk 21 (.t 16) (.c (.b true)) (.t 20),
      .mv 22 (.t 21),
      .gd 22 false (.fa 23 (.t 3) 10),
      .gd 22 false (.ld 24 (.t 23) none),
      .gd 22 false (.cl (some 25) 28 [(.t 24), (.c (.i .i64 0)), (.c (.i .i64 15))]),
      .gd 22 false (.un 26 .not (.t 25)),
      .pk 27 (.t 22) (.c (.b true)) (.t 26),
      .mv 28 (.t 27),
      .gd 28 false (.fa 29 (.t 1) 11),
      .gd 28 false (.ld 30 (.t 29) none),
      .gd 28 false (.ln 31 (.t 30)),
      .gd 28 false (.fa 32 (.t 1) 12),
      .gd 28 false (.ld 33 (.t 32) none),
      .gd 28 false (.ln 34 (.t 33)),
      .gd 28 false (.bn 35 .add (.t 31) (.t 34)),
      .gd 28 false (.fa 36 (.t 1) 13),
      .gd 28 false (.ld 37 (.t 36) none),
      .gd 28 false (.ln 38 (.t 37)),
      .gd 28 false (.bn 39 .add (.t 35) (.t 38)),
      .gd 28 false (.fa 40 (.t 1) 14),
      .gd 28 false (.ld 41 (.t 40) none),
      .gd 28 false (.ln 42 (.t 41)),
      .gd 28 false (.bn 43 .add (.t 39) (.t 42)),
      .gd 28 false (.bn 44 .gtr (.t 43) (.c (.i .i64 400))),
      .pk 45 (.t 28) (.c (.b true)) (.t 44)])
    (.i (.t 45) (.q (.o [.mv 2 (.c (.b false))])
    (.r))
    (.k)))
    (.q (.q (.o [.fa 46 (.t 1) 11,
      .ld 47 (.t 46) none,
      .ln 48 (.t 47),
      .mv 49 (.c (.i .i64 0))])
    (.b 0 (.l [1, 47, 48, 49] (.q (.o [.bn 50 .lss (.t 49) (.t 48)])
    (.q (.i (.t 50) (.k)
    (.x 0))
    (.q (.b 1 (.q (.o [.ia 51 (.t 47) (.t 49) 3,
      .ld 52 (.t 51) (some 3),
      .lal 5 (.ag [(.s []), (.i .i64 0), (.i .i64 0)]),
      .st (.t 5) (.t 52) 3])
    (.q (.o [.fa 53 (.t 5) 0,
      .ld 54 (.t 53) none,
      .cl (some 55) 60 [(.t 54)],
      .un 56 .not (.t 55),
      .mv 57 (.t 56),
      .gd 57 false (.fa 58 (.t 5) 1),
      .gd 57 false (.ld 59 (.t 58) none),
      .gd 57 false (.cl (some 60) 28 [(.t 59), (.c (.i .i64 0)), (.c (.i .i64 65535))]),
      .gd 57 false (.un 61 .not (.t 60)),
      .pk 62 (.t 57) (.c (.b true)) (.t 61),
      .mv 63 (.t 62),
      .gd 63 false (.fa 64 (.t 5) 2),
      .gd 63 false (.ld 65 (.t 64) none),
      .gd 63 false (.cl (some 66) 28 [(.t 65), (.c (.i .i64 0)), (.c (.i .i64 65535))]),
      .gd 63 false (.un 67 .not (.t 66)),
      .pk 68 (.t 63) (.c (.b true)) (.t 67)])
    (.i (.t 68) (.q (.o [.mv 2 (.c (.b false))])
    (.r))
    (.k)))))
    (.o [.bn 69 .add (.t 49) (.c (.i .i64 1)),
      .mv 49 (.t 69)])))))))
    (.q (.q (.o [.fa 70 (.t 1) 12,
      .ld 71 (.t 70) none,
      .fa 72 (.t 1) 13,
      .ld 73 (.t 72) none,
      .fa 74 (.t 1) 14,
      .ld 75 (.t 74) none,
      .lbs 76 .ns 1 3 [(0, (.t 71)), (1, (.t 73)), (2, (.t 75))],
      .ln 77 (.t 76),
      .mv 78 (.c (.i .i64 0))])
    (.b 2 (.l [76, 77, 78] (.q (.o [.bn 79 .lss (.t 78) (.t 77)])
    (.q (.i (.t 79) (.k)
    (.x 2))
    (.q (.b 3 (.q (.o [.ia 80 (.t 76) (.t 78) 1,
      .ld 81 (.t 80) none,
      .mv 7 (.t 81)])
    (.q (.o [.mv 82 (.t 7),
      .ln 83 (.t 82),
      .mv 84 (.c (.i .i64 0))])
    (.b 4 (.l [76, 77, 78, 82, 83, 84] (.q (.o [.bn 85 .lss (.t 84) (.t 83)])
    (.q (.i (.t 85) (.k)
    (.x 4))
    (.q (.b 5 (.q (.o [.ia 86 (.t 82) (.t 84) 5,
      .ld 87 (.t 86) (some 5),
      .lal 9 (.ag [(.s []), (.i .i64 0), (.i .i64 0), (.i .i64 0), (.s [])]),
      .st (.t 9) (.t 87) 5])
    (.q (.o [.ld 88 (.t 9) (some 5),
      .cl (some 89) 61 [(.t 88)],
      .un 90 .not (.t 89)])
    (.i (.t 90) (.q (.o [.mv 2 (.c (.b false))])
    (.r))
    (.k)))))
    (.o [.bn 91 .add (.t 84) (.c (.i .i64 1)),
      .mv 84 (.t 91)])))))))))
    (.o [.bn 92 .add (.t 78) (.c (.i .i64 1)),
      .mv 78 (.t 92)])))))))
    (.q (.o [.mv 2 (.c (.b true))])
    (.r))))))⟩
abbrev n_impl_validMessage : Nat := 30
theorem k_impl_validMessage : chkF Go.Proofs.Tryd.prog c_impl_validMessage 30 = true := by kernel_rfl
/-- loop.example/s01858/impl.encoded -/
def c_impl_encoded : Fn := ⟨1, [(.t 2)],
    .q (.o [.lbx 1 (.t 0),
      .mv 2 (.c .ns)])
    (.q (.o [.fa 12 (.t 1) 0,
      .ld 13 (.t 12) (some 11),
      .lal 3 (.ag [(.i .i64 0), (.b false), (.i .i64 0), (.b false), (.b false), (.b false), (.b false), (.b false), (.b false), (.b false), (.i .i64 0)]),
      .st (.t 3) (.t 13) 11])
    (.q (.o [.mkm 14,
      .bd 15 [.ns, .nm] [(1, 1, (.t 14))],
      .bx 16 (.t 15),
      .mv 4 (.t 16)])
    (.q (.p [⟨.fa 17 (.t 3) 1, [], false⟩,
      ⟨.ld 18 (.t 17) none, [], false⟩,
      ⟨.cl (some 19) 62 [(.t 18), (.c (.i .u64 15))], [], true⟩,
      ⟨.fa 20 (.t 3) 2, [], false⟩,
      ⟨.ld 21 (.t 20) none, [2], true⟩,
      ⟨.bn 22 .shl (.t 21) (.c (.i .u64 11)), [], false⟩,
      ⟨.bn 23 .or (.t 19) (.t 22), [], false⟩,
      ⟨.fa 24 (.t 3) 3, [], false⟩,
      ⟨.ld 25 (.t 24) none, [2], false⟩,
      ⟨.cl (some 26) 62 [(.t 25), (.c (.i .u64 10))], [4], true⟩,
      ⟨.bn 27 .or (.t 23) (.t 26), [], false⟩,
      ⟨.fa 28 (.t 3) 4, [], false⟩,
      ⟨.ld 29 (.t 28) none, [2, 9], false⟩,
      ⟨.cl (some 30) 62 [(.t 29), (.c (.i .u64 9))], [4], true⟩,
      ⟨.bn 31 .or (.t 27) (.t 30), [], false⟩,
      ⟨.fa 32 (.t 3) 5, [], false⟩,
      ⟨.ld 33 (.t 32) none, [2, 9, 13], false⟩,
      ⟨.cl (some 34) 62 [(.t 33), (.c (.i .u64 8))], [4], true⟩,
      ⟨.bn 35 .or (.t 31) (.t 34), [], false⟩,
      ⟨.fa 36 (.t 3) 6, [], false⟩,
      ⟨.ld 37 (.t 36) none, [2, 9, 13, 17], false⟩,
      ⟨.cl (some 38) 62 [(.t 37), (.c (.i .u64 7))], [4], true⟩,
      ⟨.bn 39 .or (.t 35) (.t 38), [], false⟩,
      ⟨.fa 40 (.t 3) 7, [], false⟩,
      ⟨.ld 41 (.t 40) none, [2, 9, 13, 17, 21], false⟩,
      ⟨.cl (some 42) 62 [(.t 41), (.c (.i .u64 6))], [4], true⟩,
      ⟨.bn 43 .or (.t 39) (.t 42), [], false⟩,
      ⟨.fa 44 (.t 3) 8, [], false⟩,
      ⟨.ld 45 (.t 44) none, [2, 9, 13, 17, 21, 25], false⟩,
      ⟨.cl (some 46) 62 [(.t 45), (.c (.i .u64 5))], [4], true⟩,
      ⟨.bn 47 .or (.t 43) (.t 46), [], false⟩,
      ⟨.fa 48 (.t 3) 9, [], false⟩,
      ⟨.ld 49 (.t 48) none, [2, 9, 13, 17, 21, 25, 29], false⟩,
      ⟨.cl (some 50) 62 [(.t 49), (.c (.i .u64 4))], [4], true⟩,
      ⟨.bn 51 .or (.t 47) (.t 50), [], false⟩,
      ⟨.fa 52 (.t 3) 10, [], false⟩,
      ⟨.ld 53 (.t 52) none, [2, 9, 13, 17, 21, 25, 29, 33], false⟩,
      ⟨.bn 54 .or (.t 51) (.t 53), [], false⟩,
      ⟨.mv 5 (.t 54), [], false⟩])
    (.q (.p [⟨.mv 55 (.t 4), [], false⟩,
      ⟨.fa 56 (.t 3) 0, [], false⟩,
      ⟨.ld 57 (.t 56) none, [], false⟩,
      ⟨.cl (some 58) 29 [(.t 57)], [], true⟩,
      ⟨.mv 59 (.t 5), [], false⟩,
      ⟨.cl (some 60) 29 [(.t 59)], [], true⟩,
      ⟨.bn 61 .add (.t 58) (.t 60), [], false⟩,
      ⟨.fa 62 (.t 1) 11, [], false⟩,
      ⟨.ld 63 (.t 62) none, [3, 5], false⟩,
      ⟨.ln 64 (.t 63), [], false⟩,
      ⟨.cl (some 65) 29 [(.t 64)], [], true⟩,
      ⟨.bn 66 .add (.t 61) (.t 65), [], false⟩,
      ⟨.fa 67 (.t 1) 12, [], false⟩,
      ⟨.ld 68 (.t 67) none, [3, 5, 10], false⟩,
      ⟨.ln 69 (.t 68), [], false⟩,
      ⟨.cl (some 70) 29 [(.t 69)], [], true⟩,
      ⟨.bn 71 .add (.t 66) (.t 70), [], false⟩,
      ⟨.fa 72 (.t 1) 13, [], false⟩,
      ⟨.ld 73 (.t 72) none, [3, 5, 10, 15], false⟩,
      ⟨.ln 74 (.t 73), [], false⟩,
      ⟨.cl (some 75) 29 [(.t 74)], [], true⟩,
      ⟨.bn 76 .add (.t 71) (.t 75), [], false⟩,
      ⟨.fa 77 (.t 1) 14, [], false⟩,
      ⟨.ld 78 (.t 77) none, [3, 5, 10, 15, 20], false⟩,
      ⟨.ln 79 (.t 78), [], false⟩,
      ⟨.cl (some 80) 29 [(.t 79)], [], false⟩,
      ⟨.bn 81 .add (.t 76) (.t 80), [], false⟩,
      ⟨.cl (some 82) 63 [(.t 55), (.t 81)], [], false⟩])
    (.q (.q (.o [.fa 83 (.t 1) 11,
      .ld 84 (.t 83) none,
      .ln 85 (.t 84),
      .mv 86 (.c (.i .i64 0))])
    (.b 0 (.l [1, 4, 84, 85, 86] (.q (.o [.bn 87 .lss (.t 86) (.t 85)])
    (.q (.i (.t 87) (.k)
    (.x 0))
    (.q (.b 1 (.q (.o [.ia 88 (.t 84) (.t 86) 3,
      .ld 89 (.t 88) (some 3),
      .lal 7 (.ag [(.s []), (.i .i64 0), (.i .i64 0)]),
      .st (.t 7) (.t 89) 3])
    (.q (.o [.mv 90 (.t 4),
      .fa 91 (.t 7) 0,
      .ld 92 (.t 91) none,
      .cl (some 93) 64 [(.t 90), (.t 92)]])
    (.p [⟨.mv 94 (.t 4), [], false⟩,
      ⟨.fa 95 (.t 7) 1, [], false⟩,
      ⟨.ld 96 (.t 95) none, [], false⟩,
      ⟨.cl (some 97) 29 [(.t 96)], [], true⟩,
      ⟨.fa 98 (.t 7) 2, [], false⟩,
      ⟨.ld 99 (.t 98) none, [3], false⟩,
      ⟨.cl (some 100) 29 [(.t 99)], [], false⟩,
      ⟨.bn 101 .add (.t 97) (.t 100), [], false⟩,
      ⟨.cl (some 102) 63 [(.t 94), (.t 101)], [], false⟩]))))
    (.o [.bn 103 .add (.t 86) (.c (.i .i64 1)),
      .mv 86 (.t 103)])))))))
    (.q (.q (.o [.fa 104 (.t 1) 12,
      .ld 105 (.t 104) none,
      .fa 106 (.t 1) 13,
      .ld 107 (.t 106) none,
      .fa 108 (.t 1) 14,
      .ld 109 (.t 108) none,
      .lbs 110 .ns 1 3 [(0, (.t 105)), (1, (.t 107)), (2, (.t 109))],
      .ln 111 (.t 110),
      .mv 112 (.c (.i .i64 0))])
    (.b 2 (.l [4, 110, 111, 112] (.q (.o [.bn 113 .lss (.t 112) (.t 111)])
    (.q (.i (.t 113) (.k)
    (.x 2))
    (.q (.b 3 (.q (.o [.ia 114 (.t 110) (.t 112) 1,
      .ld 115 (.t 114) none,
      .mv 9 (.t 115)])
    (.q (.o [.mv 116 (.t 9),
      .ln 117 (.t 116),
      .mv 118 (.c (.i .i64 0))])
    (.b 4 (.l [4, 110, 111, 112, 116, 117, 118] (.q (.o [.bn 119 .lss (.t 118) (.t 117)])
    (.q (.i (.t 119) (.k)
    (.x 4))
    (.q (.b 5 (.q (.o [.ia 120 (.t 116) (.t 118) 5,
      .ld 121 (.t 120) (some 5),
      .lal 11 (.ag [(.s []), (.i .i64 0), (.i .i64 0), (.i .i64 0), (.s [])]),
      .st (.t 11) (.t 121) 5])
    (.o [.mv 122 (.t 4),
      .ld 123 (.t 11) (some 5),
      .cl (some 124) 65 [(.t 122), (.t 123)]])))
    (.o [.bn 125 .add (.t 118) (.c (.i .i64 1)),
      .mv 118 (.t 125)])))))))))
    (.o [.bn 126 .add (.t 112) (.c (.i .i64 1)),
      .mv 112 (.t 126)])))))))
    (.q (.o [.mv 127 (.t 4),
      .nc 128 (.t 127),
      .fa 129 (.t 128) 0,
      .ld 130 (.t 129) none,
      .mv 2 (.t 130)])
    (.r))))))))⟩
abbrev n_impl_encoded : Nat := 31
theorem k_impl_encoded : chkF Go.Proofs.Tryd.prog c_impl_encoded 31 = true := by kernel_rfl
/-- loop.example/s01858/impl.NameOK -/
def c_impl_NameOK : Fn := ⟨1, [(.t 2)],
    .q (.o [.mv 2 (.c (.b false))])
    (.q (.o [.mv 6 (.t 0),
      .cl (some 7) 94 [(.t 6)],
      .mv 5 (.t 7),
      .ex 8 (.t 5) 0,
      .ex 9 (.t 5) 1,
      .mv 3 (.t 8),
      .mv 4 (.t 9)])
    (.q (.o [.mv 10 (.t 4),
      .mv 2 (.t 10)])
    (.r)))⟩
abbrev n_impl_NameOK : Nat := 60
theorem k_impl_NameOK : chkF Go.Proofs.Tryd.prog c_impl_NameOK 60 = true := by kernel_rfl
/-- loop.example/s01858/impl.recordOk -/
def c_impl_recordOk : Fn := ⟨1, [(.t 2)],
    .q (.o [.lbx 1 (.t 0),
      .mv 2 (.c (.b false))])
    (.q (.o [.fa 3 (.t 1) 0,
      .ld 4 (.t 3) none,
      .cl (some 5) 60 [(.t 4)],
      .mv 6 (.t 5),
      .gd 6 true (.fa 7 (.t 1) 1),
      .gd 6 true (.ld 8 (.t 7) none),
      .gd 6 true (.cl (some 9) 28 [(.t 8), (.c (.i .i64 0)), (.c (.i .i64 65535))]),
      .pk 10 (.t 6) (.t 9) (.c (.b false)),
      .mv 11 (.t 10),
      .gd 11 true (.fa 12 (.t 1) 2),
      .gd 11 true (.ld 13 (.t 12) none),
      .gd 11 true (.cl (some 14) 28 [(.t 13), (.c (.i .i64 0)), (.c (.i .i64 65535))]),
      .pk 15 (.t 11) (.t 14) (.c (.b false)),
      .mv 16 (.t 15),
      .gd 16 true (.fa 17 (.t 1) 3),
      .gd 16 true (.ld 18 (.t 17) none),
      .gd 16 true (.cl (some 19) 28 [(.t 18), (.c (.i .i64 0)), (.c (.i .i64 4294967295))]),
      .pk 20 (.t 16) (.t 19) (.c (.b false)),
      .mv 21 (.t 20),
      .gd 21 true (.fa 22 (.t 1) 4),
      .gd 21 true (.ld 23 (.t 22) none),
      .gd 21 true (.bn 24 .eql (.t 23) (.c (.s []))),
      .gd 21 true (.mv 25 (.t 24)),
      .gd 25 false (.fa 26 (.t 1) 1),
      .gd 25 false (.ld 27 (.t 26) none),
      .gd 25 false (.fa 28 (.t 1) 4),
      .gd 25 false (.ld 29 (.t 28) none),
      .gd 25 false (.cl (some 30) 70 [(.t 27), (.t 29)]),
      .gd 25 false (.bn 31 .eql (.t 30) (.c (.i .i64 0))),
      .gd 21 true (.pk 32 (.t 25) (.c (.b true)) (.t 31)),
      .pk 33 (.t 21) (.t 32) (.c (.b false)),
      .mv 2 (.t 33)])
    (.r))⟩
abbrev n_impl_recordOk : Nat := 61
theorem k_impl_recordOk : chkF Go.Proofs.Tryd.prog c_impl_recordOk 61 = true := by kernel_rfl
/-- loop.example/s01858/impl.flag -/
def c_impl_flag : Fn := ⟨2, [(.t 4)],
    .q (.o [.mv 4 (.c (.i .i64 0))])
    (.q (.q (.o [.mv 5 (.t 0)])
    (.i (.t 5) (.q (.o [.mv 6 (.t 1),
      .bn 7 .shl (.c (.i .i64 1)) (.t 6),
      .mv 4 (.t 7)])
    (.r))
    (.k)))
    (.q (.o [.mv 4 (.c (.i .i64 0))])
    (.r)))⟩
abbrev n_impl_flag : Nat := 62
theorem k_impl_flag : chkF Go.Proofs.Tryd.prog c_impl_flag 62 = true := by kernel_rfl
/-- (*loop.example/s01858/impl.encoder).put -/
def c_impl_encoder_put : Fn := ⟨2, [],
    .o [.mv 4 (.t 0),
      .mv 5 (.t 0),
      .nc 6 (.t 5),
      .fa 7 (.t 6) 0,
      .ld 8 (.t 7) none,
      .mv 9 (.t 1),
      .ap 10 (.t 8) (.t 9) 1 1,
      .nc 11 (.t 4),
      .fa 12 (.t 11) 0,
      .st (.t 12) (.t 10) 1]⟩
abbrev n_impl_encoder_put : Nat := 63
theorem k_impl_encoder_put : chkF Go.Proofs.Tryd.prog c_impl_encoder_put 63 = true := by kernel_rfl
/-- (*loop.example/s01858/impl.encoder).name -/
def c_impl_encoder_name : Fn := ⟨2, [],
    .q (.b 0 (.l [0, 1] (.q (.q (.o [.mv 7 (.t 1),
      .bn 8 .neq (.t 7) (.c (.s [0]))])
    (.i (.t 8) (.k)
    (.x 0)))
    (.b 1 (.q (.q (.o [.mv 10 (.t 0),
      .nc 11 (.t 10),
      .fa 12 (.t 11) 1,
      .ld 13 (.t 12) none,
      .mv 14 (.t 1),
      .lk 15 (.t 13) (.t 14) (.i .i64 0) [.s] true,
      .mv 9 (.t 15),
      .ex 16 (.t 9) 0,
      .ex 17 (.t 9) 1,
      .mv 4 (.t 16),
      .mv 5 (.t 17)])
    (.q (.o [.mv 18 (.t 5)])
    (.i (.t 18) (.q (.o [.mv 19 (.t 0),
      .mv 20 (.t 0),
      .nc 21 (.t 20),
      .fa 22 (.t 21) 0,
      .ld 23 (.t 22) none,
      .mv 24 (.t 4),
      .bn 25 .shr (.t 24) (.c (.i .u64 8)),
      .ci 26 .u8 (.t 25),
      .bn 27 .or (.t 26) (.c (.i .u8 192)),
      .mv 28 (.t 4),
      .ci 29 .u8 (.t 28),
      .lbs 30 (.i .u8 0) 1 2 [(0, (.t 27)), (1, (.t 29))],
      .ap 31 (.t 23) (.t 30) 1 1,
      .nc 32 (.t 19),
      .fa 33 (.t 32) 0,
      .st (.t 33) (.t 31) 1])
    (.r))
    (.k))))
    (.q (.q (.o [.mv 34 (.t 0),
      .nc 35 (.t 34),
      .fa 36 (.t 35) 0,
      .ld 37 (.t 36) none,
      .ln 38 (.t 37),
      .bn 39 .leq (.t 38) (.c (.i .i64 16383))])
    (.i (.t 39) (.p [⟨.mv 40 (.t 0), [], false⟩,
      ⟨.nc 41 (.t 40), [], false⟩,
      ⟨.fa 42 (.t 41) 1, [], false⟩,
      ⟨.ld 43 (.t 42) none, [], false⟩,
      ⟨.mv 44 (.t 1), [], false⟩,
      ⟨.mv 45 (.t 0), [], false⟩,
      ⟨.nc 46 (.t 45), [], false⟩,
      ⟨.fa 47 (.t 46) 0, [], false⟩,
      ⟨.ld 48 (.t 47) none, [], false⟩,
      ⟨.ln 49 (.t 48), [], false⟩,
      ⟨.mu (.t 43) (.t 44) (.t 49) [.s], [], false⟩])
    (.k)))
    (.q (.o [.mv 50 (.t 1),
      .ix 51 (.t 50) (.c (.i .i64 0)),
      .ci 52 .i64 (.t 51),
      .bn 53 .add (.c (.i .i64 1)) (.t 52),
      .mv 6 (.t 53)])
    (.q (.p [⟨.mv 54 (.t 0), [], false⟩,
      ⟨.mv 55 (.t 0), [], false⟩,
      ⟨.nc 56 (.t 55), [], false⟩,
      ⟨.fa 57 (.t 56) 0, [], false⟩,
      ⟨.ld 58 (.t 57) none, [], false⟩,
      ⟨.mv 59 (.t 1), [], false⟩,
      ⟨.mv 60 (.t 6), [], false⟩,
      ⟨.ss 61 (.t 59) none (some (.t 60)), [], false⟩,
      ⟨.ap 62 (.t 58) (.t 61) 1 1, [], false⟩,
      ⟨.nc 63 (.t 54), [], false⟩,
      ⟨.fa 64 (.t 63) 0, [], false⟩,
      ⟨.st (.t 64) (.t 62) 1, [], false⟩])
    (.o [.mv 65 (.t 1),
      .mv 66 (.t 6),
      .ss 67 (.t 65) (some (.t 66)) none,
      .mv 1 (.t 67)])))))))))
    (.o [.mv 68 (.t 0),
      .mv 69 (.t 0),
      .nc 70 (.t 69),
      .fa 71 (.t 70) 0,
      .ld 72 (.t 71) none,
      .lbs 73 (.i .u8 0) 1 1 [(0, (.c (.i .u8 0)))],
      .ap 74 (.t 72) (.t 73) 1 1,
      .nc 75 (.t 68),
      .fa 76 (.t 75) 0,
      .st (.t 76) (.t 74) 1])⟩
abbrev n_impl_encoder_name : Nat := 64
theorem k_impl_encoder_name : chkF Go.Proofs.Tryd.prog c_impl_encoder_name 64 = true := by kernel_rfl
/-- (*loop.example/s01858/impl.encoder).record -/
def c_impl_encoder_record : Fn := ⟨2, [],
    .q (.o [.lbx 3 (.t 1)])
    (.q (.o [.mv 8 (.t 0),
      .fa 9 (.t 3) 0,
      .ld 10 (.t 9) none,
      .cl (some 11) 64 [(.t 8), (.t 10)]])
    (.q (.p [⟨.mv 12 (.t 0), [], false⟩,
      ⟨.fa 13 (.t 3) 1, [], false⟩,
      ⟨.ld 14 (.t 13) none, [], false⟩,
      ⟨.cl (some 15) 29 [(.t 14)], [], true⟩,
      ⟨.fa 16 (.t 3) 2, [], false⟩,
      ⟨.ld 17 (.t 16) none, [3], false⟩,
      ⟨.cl (some 18) 29 [(.t 17)], [], true⟩,
      ⟨.bn 19 .add (.t 15) (.t 18), [], false⟩,
      ⟨.fa 20 (.t 3) 3, [], false⟩,
      ⟨.ld 21 (.t 20) none, [3, 6], false⟩,
      ⟨.cl (some 22) 95 [(.t 21)], [], false⟩,
      ⟨.bn 23 .add (.t 19) (.t 22), [], false⟩,
      ⟨.bn 24 .add (.t 23) (.c (.s [0, 0])), [], false⟩,
      ⟨.cl (some 25) 63 [(.t 12), (.t 24)], [], false⟩])
    (.q (.o [.mv 26 (.t 0),
      .nc 27 (.t 26),
      .fa 28 (.t 27) 0,
      .ld 29 (.t 28) none,
      .ln 30 (.t 29),
      .mv 4 (.t 30)])
    (.q (.q (.o [.fa 31 (.t 3) 4,
      .ld 32 (.t 31) none,
      .bn 33 .eql (.t 32) (.c (.s [])),
      .mv 34 (.t 33),
      .gd 34 false (.fa 35 (.t 3) 1),
      .gd 34 false (.ld 36 (.t 35) none),
      .gd 34 false (.cl (some 37) 69 [(.t 36)]),
      .gd 34 false (.un 38 .not (.t 37)),
      .pk 39 (.t 34) (.c (.b true)) (.t 38)])
    (.i (.t 39) (.o [.mv 40 (.t 0),
      .fa 41 (.t 3) 4,
      .ld 42 (.t 41) none,
      .cl (some 43) 63 [(.t 40), (.t 42)]])
    (.q (.o [.mv 5 (.c (.i .i64 0))])
    (.q (.q (.o [.fa 44 (.t 3) 1,
      .ld 45 (.t 44) none,
      .fa 46 (.t 3) 4,
      .ld 47 (.t 46) none,
      .cl (some 48) 96 [(.t 45), (.t 47)],
      .ln 49 (.t 48),
      .mv 50 (.c (.i .i64 0))])
    (.b 0 (.l [0, 3, 4, 5, 48, 49, 50] (.q (.o [.bn 51 .lss (.t 50) (.t 49)])
    (.q (.i (.t 51) (.k)
    (.x 0))
    (.q (.b 1 (.q (.o [.ia 52 (.t 48) (.t 50) 2,
      .ld 53 (.t 52) (some 2),
      .lal 7 (.ag [(.i .i64 0), (.i .i64 0)]),
      .st (.t 7) (.t 53) 2])
    (.q (.o [.mv 54 (.t 0),
      .fa 55 (.t 3) 4,
      .ld 56 (.t 55) none,
      .mv 57 (.t 5),
      .fa 58 (.t 7) 0,
      .ld 59 (.t 58) none,
      .ss 60 (.t 56) (some (.t 57)) (some (.t 59)),
      .cl (some 61) 63 [(.t 54), (.t 60)]])
    (.q (.o [.mv 62 (.t 0),
      .fa 63 (.t 3) 4,
      .ld 64 (.t 63) none,
      .fa 65 (.t 7) 0,
      .ld 66 (.t 65) none,
      .fa 67 (.t 7) 1,
      .ld 68 (.t 67) none,
      .ss 69 (.t 64) (some (.t 66)) (some (.t 68)),
      .cl (some 70) 64 [(.t 62), (.t 69)]])
    (.o [.fa 71 (.t 7) 1,
      .ld 72 (.t 71) none,
      .mv 5 (.t 72)])))))
    (.o [.bn 73 .add (.t 50) (.c (.i .i64 1)),
      .mv 50 (.t 73)])))))))
    (.o [.mv 74 (.t 0),
      .fa 75 (.t 3) 4,
      .ld 76 (.t 75) none,
      .mv 77 (.t 5),
      .ss 78 (.t 76) (some (.t 77)) none,
      .cl (some 79) 63 [(.t 74), (.t 78)]])))))
    (.p [⟨.mv 80 (.t 0), [], false⟩,
      ⟨.nc 81 (.t 80), [], false⟩,
      ⟨.fa 82 (.t 81) 0, [], false⟩,
      ⟨.ld 83 (.t 82) none, [], true⟩,
      ⟨.mv 84 (.t 4), [], false⟩,
      ⟨.bn 85 .sub (.t 84) (.c (.i .i64 2)), [], false⟩,
      ⟨.sl 86 (.t 83) (some (.t 85)) none 1, [], true⟩,
      ⟨.mv 87 (.t 0), [], false⟩,
      ⟨.nc 88 (.t 87), [], false⟩,
      ⟨.fa 89 (.t 88) 0, [], false⟩,
      ⟨.ld 90 (.t 89) none, [], false⟩,
      ⟨.ln 91 (.t 90), [], false⟩,
      ⟨.mv 92 (.t 4), [], false⟩,
      ⟨.bn 93 .sub (.t 91) (.t 92), [], false⟩,
      ⟨.cl (some 94) 29 [(.t 93)], [3, 6], false⟩,
      ⟨.cp 95 (.t 86) (.t 94) 1, [], false⟩])))))⟩
abbrev n_impl_encoder_record : Nat := 65
theorem k_impl_encoder_record : chkF Go.Proofs.Tryd.prog c_impl_encoder_record 65 = true := by kernel_rfl
/-- loop.example/s01858/impl.hasPointers -/
def c_impl_hasPointers : Fn := ⟨1, [(.t 2)],
    .q (.o [.mv 2 (.c (.b false))])
    (.q (.o [.mv 3 (.t 0),
      .bn 4 .eql (.t 3) (.c (.i .i64 2)),
      .mv 5 (.t 4),
      .gd 5 false (.mv 6 (.t 0)),
      .gd 5 false (.bn 7 .eql (.t 6) (.c (.i .i64 5))),
      .pk 8 (.t 5) (.c (.b true)) (.t 7),
      .mv 9 (.t 8),
      .gd 9 false (.mv 10 (.t 0)),
      .gd 9 false (.bn 11 .eql (.t 10) (.c (.i .i64 12))),
      .pk 12 (.t 9) (.c (.b true)) (.t 11),
      .mv 13 (.t 12),
      .gd 13 false (.mv 14 (.t 0)),
      .gd 13 false (.bn 15 .eql (.t 14) (.c (.i .i64 15))),
      .pk 16 (.t 13) (.c (.b true)) (.t 15),
      .mv 17 (.t 16),
      .gd 17 false (.mv 18 (.t 0)),
      .gd 17 false (.bn 19 .eql (.t 18) (.c (.i .i64 6))),
      .pk 20 (.t 17) (.c (.b true)) (.t 19),
      .mv 2 (.t 20)])
    (.r))⟩
abbrev n_impl_hasPointers : Nat := 69
theorem k_impl_hasPointers : chkF Go.Proofs.Tryd.prog c_impl_hasPointers 69 = true := by kernel_rfl
/-- loop.example/s01858/impl.CheckData -/
def c_impl_CheckData : Fn := ⟨2, [(.t 4)],
    .q (.o [.mv 4 (.c (.i .i64 0))])
    (.q (.q (.o [.mv 7 (.t 0),
      .bn 8 .lss (.t 7) (.c (.i .i64 0)),
      .mv 9 (.t 8),
      .gd 9 false (.mv 10 (.t 0)),
      .gd 9 false (.bn 11 .gtr (.t 10) (.c (.i .i64 65535))),
      .pk 12 (.t 9) (.c (.b true)) (.t 11)])
    (.i (.t 12) (.q (.o [.mv 4 (.c (.i .i64 6))])
    (.r))
    (.k)))
    (.q (.q (.o [.mv 13 (.t 1),
      .lns 14 (.t 13),
      .bn 15 .gtr (.t 14) (.c (.i .i64 65535))])
    (.i (.t 15) (.q (.o [.mv 4 (.c (.i .i64 7))])
    (.r))
    (.k)))
    (.q (.q (.o [.mv 17 (.t 0),
      .mv 18 (.t 1),
      .cl (some 19) 98 [(.t 17), (.t 18)],
      .mv 16 (.t 19),
      .ex 20 (.t 16) 0,
      .ex 21 (.t 16) 1,
      .mv 5 (.t 20),
      .mv 6 (.t 21)])
    (.q (.o [.mv 22 (.t 6),
      .un 23 .not (.t 22)])
    (.i (.t 23) (.q (.o [.mv 4 (.c (.i .i64 7))])
    (.r))
    (.k))))
    (.q (.o [.mv 4 (.c (.i .i64 0))])
    (.r)))))⟩
abbrev n_impl_CheckData : Nat := 70
theorem k_impl_CheckData : chkF Go.Proofs.Tryd.prog c_impl_CheckData 70 = true := by kernel_rfl
/-- loop.example/s01858/impl.labelsOf -/
def c_impl_labelsOf : Fn := ⟨1, [(.t 2), (.t 3)],
    .q (.o [.mv 2 (.c .ns),
      .mv 3 (.c (.b false))])
    (.q (.o [.mv 4 (.c .ns)])
    (.q (.q (.o [.mv 7 (.t 0),
      .lns 8 (.t 7),
      .bn 9 .gtr (.t 8) (.c (.i .i64 255))])
    (.i (.t 9) (.q (.o [.mv 2 (.c .ns),
      .mv 3 (.c (.b false))])
    (.r))
    (.k)))
    (.q (.q (.o [.mv 5 (.c (.i .i64 0))])
    (.b 0 (.l [0, 4, 5] (.q (.q (.o [.mv 10 (.t 5),
      .mv 11 (.t 0),
      .lns 12 (.t 11),
      .bn 13 .lss (.t 10) (.t 12)])
    (.i (.t 13) (.k)
    (.x 0)))
    (.b 1 (.q (.o [.mv 14 (.t 0),
      .mv 15 (.t 5),
      .ix 16 (.t 14) (.t 15),
      .ci 17 .i64 (.t 16),
      .mv 6 (.t 17)])
    (.q (.q (.o [.mv 18 (.t 6),
      .bn 19 .eql (.t 18) (.c (.i .i64 0))])
    (.i (.t 19) (.q (.o [.mv 20 (.t 4),
      .mv 21 (.t 5),
      .mv 22 (.t 0),
      .lns 23 (.t 22),
      .bn 24 .sub (.t 23) (.c (.i .i64 1)),
      .bn 25 .eql (.t 21) (.t 24),
      .mv 2 (.t 20),
      .mv 3 (.t 25)])
    (.r))
    (.k)))
    (.q (.q (.o [.mv 26 (.t 6),
      .bn 27 .gtr (.t 26) (.c (.i .i64 63)),
      .mv 28 (.t 27),
      .gd 28 false (.mv 29 (.t 5)),
      .gd 28 false (.bn 30 .add (.t 29) (.c (.i .i64 1))),
      .gd 28 false (.mv 31 (.t 6)),
      .gd 28 false (.bn 32 .add (.t 30) (.t 31)),
      .gd 28 false (.mv 33 (.t 0)),
      .gd 28 false (.lns 34 (.t 33)),
      .gd 28 false (.bn 35 .gtr (.t 32) (.t 34)),
      .pk 36 (.t 28) (.c (.b true)) (.t 35)])
    (.i (.t 36) (.q (.o [.mv 2 (.c .ns),
      .mv 3 (.c (.b false))])
    (.r))
    (.k)))
    (.q (.o [.mv 37 (.t 4),
      .mv 38 (.t 0),
      .mv 39 (.t 5),
      .bn 40 .add (.t 39) (.c (.i .i64 1)),
      .mv 41 (.t 5),
      .bn 42 .add (.t 41) (.c (.i .i64 1)),
      .mv 43 (.t 6),
      .bn 44 .add (.t 42) (.t 43),
      .ss 45 (.t 38) (some (.t 40)) (some (.t 44)),
      .lbs 46 (.s []) 1 1 [(0, (.t 45))],
      .ap 47 (.t 37) (.t 46) 1 16,
      .mv 4 (.t 47)])
    (.o [.mv 48 (.t 5),
      .mv 49 (.t 6),
      .bn 50 .add (.c (.i .i64 1)) (.t 49),
      .bn 51 .add (.t 48) (.t 50),
      .mv 5 (.t 51)]))))))))))
    (.q (.o [.mv 2 (.c .ns),
      .mv 3 (.c (.b false))])
    (.r)))))⟩
abbrev n_impl_labelsOf : Nat := 94
theorem k_impl_labelsOf : chkF Go.Proofs.Tryd.prog c_impl_labelsOf 94 = true := by kernel_rfl
/-- loop.example/s01858/impl.p32 -/
def c_impl_p32 : Fn := ⟨1, [(.t 2)],
    .q (.o [.mv 2 (.c (.s []))])
    (.q (.o [.al 3 1 [(.i .u8 0), (.i .u8 0), (.i .u8 0), (.i .u8 0)]])
    (.q (.p [⟨.ld 4 (.g 0) (some 0), [], false⟩,
      ⟨.sla 5 (.t 3) 4 1, [], false⟩,
      ⟨.mv 6 (.t 0), [], false⟩,
      ⟨.ci 7 .u32 (.t 6), [], false⟩,
      ⟨.cl (some 8) 118 [(.t 4), (.t 5), (.t 7)], [], false⟩])
    (.q (.o [.sla 9 (.t 3) 4 1,
      .cbs 10 (.t 9),
      .mv 2 (.t 10)])
    (.r))))⟩
abbrev n_impl_p32 : Nat := 95
theorem k_impl_p32 : chkF Go.Proofs.Tryd.prog c_impl_p32 95 = true := by kernel_rfl
/-- loop.example/s01858/impl.parsed -/
def c_impl_parsed : Fn := ⟨2, [(.t 4), (.t 5)],
    .q (.o [.bx 3 (.t 1),
      .mv 4 (.c .ns),
      .mv 5 (.c (.b false))])
    (.q (.o [.ld 20 (.g 1) none,
      .mv 21 (.t 0),
      .lk 22 (.t 20) (.t 21) (.s []) [(.i .i64)] true,
      .mv 19 (.t 22),
      .ex 23 (.t 19) 0,
      .ex 24 (.t 19) 1,
      .mv 6 (.t 23),
      .mv 7 (.t 24)])
    (.q (.q (.o [.mv 25 (.t 7),
      .un 26 .not (.t 25)])
    (.i (.t 26) (.q (.o [.mv 4 (.c .ns),
      .mv 5 (.c (.b true))])
    (.r))
    (.k)))
    (.q (.o [.mv 8 (.c .ns)])
    (.q (.o [.al 9 1 [(.i .i64 0)],
      .st (.t 9) (.c (.i .i64 0)) 1])
    (.q (.o [.mf 27 119 [(.t 3), (.t 9)],
      .mv 10 (.t 27)])
    (.q (.q (.o [.mv 28 (.t 6),
      .rs 29 (.t 28)])
    (.b 0 (.l [3, 8, 9, 10, 29] (.q (.o [.nx 30 (.t 29),
      .ex 31 (.t 30) 0])
    (.q (.i (.t 31) (.k)
    (.x 0))
    (.b 1 (.q (.o [.ex 32 (.t 30) 2,
      .mv 12 (.t 32)])
    (.q (.o [.mv 13 (.c (.i .i64 (-1)))])
    (.q (.q (.o [.mv 33 (.t 12)])
    (.b 2 (.q (.o [.bn 35 .eql (.t 33) (.c (.i .i32 49)),
      .mv 34 (.t 35)])
    (.i (.t 34) (.o [.mv 13 (.c (.i .i64 1))])
    (.q (.o [.bn 37 .eql (.t 33) (.c (.i .i32 50)),
      .mv 36 (.t 37)])
    (.i (.t 36) (.o [.mv 13 (.c (.i .i64 2))])
    (.q (.q (.o [.bn 39 .eql (.t 33) (.c (.i .i32 52)),
      .mv 38 (.t 39)])
    (.i (.t 38) (.k)
    (.q (.o [.bn 40 .eql (.t 33) (.c (.i .i32 103)),
      .mv 38 (.t 40)])
    (.i (.t 38) (.k)
    (.o [.bn 41 .eql (.t 33) (.c (.i .i32 113)),
      .mv 38 (.t 41)])))))
    (.i (.t 38) (.o [.mv 13 (.c (.i .i64 4))])
    (.q (.o [.bn 43 .eql (.t 33) (.c (.i .i32 110)),
      .mv 42 (.t 43)])
    (.i (.t 42) (.q (.o [.mv 44 (.t 10),
      .cv (some 45) (.t 44) [],
      .cl (some 46) 120 [(.t 45)],
      .mv 13 (.t 46)])
    (.q (.q (.o [.mv 47 (.t 13),
      .bn 48 .eql (.t 47) (.c (.i .i64 0))])
    (.i (.t 48) (.q (.o [.mv 4 (.c .ns),
      .mv 5 (.c (.b false))])
    (.r))
    (.k)))
    (.o [.mv 49 (.t 8),
      .ld 50 (.t 9) none,
      .ld 51 (.t 9) none,
      .mv 52 (.t 13),
      .bn 53 .add (.t 51) (.t 52),
      .bd 54 [(.i .i64 0), (.i .i64 0)] [(0, 1, (.t 50)), (1, 1, (.t 53))],
      .lbs 55 (.ag [(.i .i64 0), (.i .i64 0)]) 2 1 [(0, (.t 54))],
      .ap 56 (.t 49) (.t 55) 2 16,
      .mv 8 (.t 56)])))
    (.q (.q (.o [.bn 58 .eql (.t 33) (.c (.i .i32 116)),
      .mv 57 (.t 58)])
    (.i (.t 57) (.k)
    (.o [.bn 59 .eql (.t 33) (.c (.i .i32 99)),
      .mv 57 (.t 59)])))
    (.i (.t 57) (.q (.q (.o [.ld 60 (.t 9) none,
      .ld 61 (.t 3) none,
      .lns 62 (.t 61),
      .bn 63 .geq (.t 60) (.t 62)])
    (.i (.t 63) (.q (.o [.mv 4 (.c .ns),
      .mv 5 (.c (.b false))])
    (.r))
    (.k)))
    (.q (.o [.ld 64 (.t 3) none,
      .ld 65 (.t 9) none,
      .ix 66 (.t 64) (.t 65),
      .ci 67 .i64 (.t 66),
      .bn 68 .add (.c (.i .i64 1)) (.t 67),
      .mv 13 (.t 68)])
    (.q (.o [.mv 69 (.t 12),
      .bn 70 .eql (.t 69) (.c (.i .i32 99))])
    (.i (.t 70) (.q (.q (.o [.mv 71 (.t 13),
      .bn 72 .lss (.t 71) (.c (.i .i64 2)),
      .mv 73 (.t 72),
      .gd 73 false (.mv 74 (.t 13)),
      .gd 73 false (.bn 75 .gtr (.t 74) (.c (.i .i64 16))),
      .pk 76 (.t 73) (.c (.b true)) (.t 75),
      .mv 77 (.t 76),
      .gd 77 false (.ld 78 (.t 9) none),
      .gd 77 false (.mv 79 (.t 13)),
      .gd 77 false (.bn 80 .add (.t 78) (.t 79)),
      .gd 77 false (.ld 81 (.t 3) none),
      .gd 77 false (.lns 82 (.t 81)),
      .gd 77 false (.bn 83 .gtr (.t 80) (.t 82)),
      .pk 84 (.t 77) (.c (.b true)) (.t 83)])
    (.i (.t 84) (.q (.o [.mv 4 (.c .ns),
      .mv 5 (.c (.b false))])
    (.r))
    (.k)))
    (.q (.o [.ld 85 (.t 3) none,
      .ld 86 (.t 9) none,
      .bn 87 .add (.t 86) (.c (.i .i64 1)),
      .ld 88 (.t 9) none,
      .mv 89 (.t 13),
      .bn 90 .add (.t 88) (.t 89),
      .ss 91 (.t 85) (some (.t 87)) (some (.t 90)),
      .csb 92 (.t 91),
      .ln 93 (.t 92),
      .mv 94 (.c (.i .i64 0))])
    (.b 3 (.l [3, 8, 9, 10, 13, 29, 92, 93, 94] (.q (.o [.bn 95 .lss (.t 94) (.t 93)])
    (.q (.i (.t 95) (.k)
    (.x 3))
    (.q (.b 4 (.q (.o [.ia 96 (.t 92) (.t 94) 1,
      .ld 97 (.t 96) none,
      .mv 15 (.t 97)])
    (.q (.o [.mv 98 (.t 15),
      .bn 99 .geq (.t 98) (.c (.i .u8 48)),
      .mv 100 (.t 99),
      .gd 100 true (.mv 101 (.t 15)),
      .gd 100 true (.bn 102 .leq (.t 101) (.c (.i .u8 57))),
      .pk 103 (.t 100) (.t 102) (.c (.b false)),
      .mv 104 (.t 103),
      .gd 104 false (.mv 105 (.t 15)),
      .gd 104 false (.bn 106 .geq (.t 105) (.c (.i .u8 97))),
      .gd 104 false (.mv 107 (.t 106)),
      .gd 107 true (.mv 108 (.t 15)),
      .gd 107 true (.bn 109 .leq (.t 108) (.c (.i .u8 122))),
      .gd 104 false (.pk 110 (.t 107) (.t 109) (.c (.b false))),
      .pk 111 (.t 104) (.c (.b true)) (.t 110),
      .mv 112 (.t 111),
      .gd 112 false (.mv 113 (.t 15)),
      .gd 112 false (.bn 114 .geq (.t 113) (.c (.i .u8 65))),
      .gd 112 false (.mv 115 (.t 114)),
      .gd 115 true (.mv 116 (.t 15)),
      .gd 115 true (.bn 117 .leq (.t 116) (.c (.i .u8 90))),
      .gd 112 false (.pk 118 (.t 115) (.t 117) (.c (.b false))),
      .pk 119 (.t 112) (.c (.b true)) (.t 118),
      .un 120 .not (.t 119)])
    (.i (.t 120) (.q (.o [.mv 4 (.c .ns),
      .mv 5 (.c (.b false))])
    (.r))
    (.k)))))
    (.o [.bn 121 .add (.t 94) (.c (.i .i64 1)),
      .mv 94 (.t 121)]))))))))
    (.k)))))
    (.q (.o [.bn 123 .eql (.t 33) (.c (.i .i32 84)),
      .mv 122 (.t 123)])
    (.i (.t 122) (.q (.o [.ld 124 (.t 9) none,
      .mv 16 (.t 124)])
    (.q (.b 5 (.l [3, 8, 9, 10, 16, 29] (.q (.q (.o [.mv 125 (.t 16),
      .ld 126 (.t 3) none,
      .lns 127 (.t 126),
      .bn 128 .lss (.t 125) (.t 127)])
    (.i (.t 128) (.k)
    (.x 5)))
    (.b 6 (.o [.mv 129 (.t 16),
      .ld 130 (.t 3) none,
      .mv 131 (.t 16),
      .ix 132 (.t 130) (.t 131),
      .ci 133 .i64 (.t 132),
      .bn 134 .add (.c (.i .i64 1)) (.t 133),
      .bn 135 .add (.t 129) (.t 134),
      .mv 16 (.t 135)])))))
    (.q (.o [.mv 136 (.t 16),
      .ld 137 (.t 9) none,
      .bn 138 .sub (.t 136) (.t 137),
      .mv 13 (.t 138)])
    (.q (.o [.mv 139 (.t 13),
      .bn 140 .eql (.t 139) (.c (.i .i64 0))])
    (.i (.t 140) (.q (.o [.mv 4 (.c .ns),
      .mv 5 (.c (.b false))])
    (.r))
    (.k))))))
    (.q (.o [.bn 142 .eql (.t 33) (.c (.i .i32 109)),
      .mv 141 (.t 142)])
    (.i (.t 141) (.q (.q (.o [.mv 144 (.t 10),
      .cv (some 145) (.t 144) [],
      .cl (some 146) 121 [(.t 145)],
      .mv 143 (.t 146),
      .ex 147 (.t 143) 0,
      .ex 148 (.t 143) 1,
      .mv 17 (.t 147),
      .mv 18 (.t 148)])
    (.q (.o [.mv 149 (.t 18),
      .bn 150 .neq (.t 149) (.c (.i .i64 0))])
    (.i (.t 150) (.q (.o [.mv 4 (.c .ns),
      .mv 5 (.c (.b false))])
    (.r))
    (.k))))
    (.o [.mv 151 (.t 10),
      .cv (some 152) (.t 151) [],
      .lns 153 (.t 152),
      .mv 13 (.t 153)]))
    (.q (.o [.bn 155 .eql (.t 33) (.c (.i .i32 42)),
      .mv 154 (.t 155)])
    (.i (.t 154) (.o [.mv 156 (.t 10),
      .cv (some 157) (.t 156) [],
      .lns 158 (.t 157),
      .mv 13 (.t 158)])
    (.k)))))))))))))))))))
    (.q (.q (.o [.ld 159 (.t 9) none,
      .mv 160 (.t 13),
      .bn 161 .add (.t 159) (.t 160),
      .ld 162 (.t 3) none,
      .lns 163 (.t 162),
      .bn 164 .gtr (.t 161) (.t 163)])
    (.i (.t 164) (.q (.o [.mv 4 (.c .ns),
      .mv 5 (.c (.b false))])
    (.r))
    (.k)))
    (.o [.ld 165 (.t 9) none,
      .mv 166 (.t 13),
      .bn 167 .add (.t 165) (.t 166),
      .st (.t 9) (.t 167) 1])))))))))))
    (.q (.p [⟨.mv 168 (.t 8), [], false⟩,
      ⟨.ld 169 (.t 9) none, [], false⟩,
      ⟨.ld 170 (.t 3) none, [], false⟩,
      ⟨.lns 171 (.t 170), [], false⟩,
      ⟨.bn 172 .eql (.t 169) (.t 171), [], false⟩,
      ⟨.mv 4 (.t 168), [], false⟩,
      ⟨.mv 5 (.t 172), [], false⟩])
    (.r))))))))⟩
abbrev n_impl_parsed : Nat := 98
theorem k_impl_parsed : chkF Go.Proofs.Tryd.prog c_impl_parsed 98 = true := by kernel_rfl
/-- (encoding/binary.bigEndian).PutUint32 -/
def c_binary_bigEndian_PutUint32 : Fn := ⟨3, [],
    .q (.o [.lbx 3 (.t 0)])
    (.q (.o [.mv 6 (.t 1),
      .ia 7 (.t 6) (.c (.i .i64 3)) 1,
      .ld 8 (.t 7) none])
    (.q (.o [.mv 9 (.t 1),
      .mv 10 (.t 2),
      .bn 11 .shr (.t 10) (.c (.i .u64 24)),
      .ci 12 .u8 (.t 11),
      .ia 13 (.t 9) (.c (.i .i64 0)) 1,
      .st (.t 13) (.t 12) 1])
    (.q (.o [.mv 14 (.t 1),
      .mv 15 (.t 2),
      .bn 16 .shr (.t 15) (.c (.i .u64 16)),
      .ci 17 .u8 (.t 16),
      .ia 18 (.t 14) (.c (.i .i64 1)) 1,
      .st (.t 18) (.t 17) 1])
    (.q (.o [.mv 19 (.t 1),
      .mv 20 (.t 2),
      .bn 21 .shr (.t 20) (.c (.i .u64 8)),
      .ci 22 .u8 (.t 21),
      .ia 23 (.t 19) (.c (.i .i64 2)) 1,
      .st (.t 23) (.t 22) 1])
    (.o [.mv 24 (.t 1),
      .mv 25 (.t 2),
      .ci 26 .u8 (.t 25),
      .ia 27 (.t 24) (.c (.i .i64 3)) 1,
      .st (.t 27) (.t 26) 1])))))⟩
abbrev n_binary_bigEndian_PutUint32 : Nat := 118
theorem k_binary_bigEndian_PutUint32 : chkF Go.Proofs.Tryd.prog c_binary_bigEndian_PutUint32 118 = true := by kernel_rfl
end Go.Vm

/- The writer of messages: its state, what is put. -/
namespace Go.Vm
set_option linter.unusedVariables false
set_option linter.unusedSimpArgs false
/-- What is written, and where the rest of a name was written first. -/
abbrev EncSt := List UInt8 × List (List UInt8 × Nat)
def encMp (es : List (List UInt8 × Nat)) : List (AV × AV) := es.map fun e => (.s e.1, .i .i64 (e.2 : Nat))
structure EncS (H : AH) (n0 pid : Nat) (s : EncSt) : Prop where
  ex : ∃ bv mid, Obj1 H pid [bv, .mp mid] ∧ Mb H bv s.1 ∧ mid < H.n ∧ H.at' mid = .map true (encMp s.2) ∧ ¬ pid ∈ idA bv ∧ mid ≠ pid ∧ ¬ mid ∈ idA bv ∧ n0 ≤ mid ∧ ∀ i, i ∈ idA bv → n0 ≤ i
  ge : n0 ≤ pid
/-- What lies below a bound is as it was. -/
structure Bl (n0 : Nat) (H H' : AH) : Prop where
  n : H.n ≤ H'.n
  at' : ∀ i, i < n0 → H'.at' i = H.at' i
theorem Bl.refl (n0 : Nat) (H : AH) : Bl n0 H H := ⟨Nat.le_refl _, fun _ _ => rfl⟩
theorem Bl.trans {n0 : Nat} {H H1 H2 : AH} (h : Bl n0 H H1) (h' : Bl n0 H1 H2) : Bl n0 H H2 := ⟨Nat.le_trans h.n h'.n, fun i hi => (h'.at' i hi).trans (h.at' i hi)⟩
theorem Bl.of_ext {n0 : Nat} {H H' : AH} (h : Ext H H') (hn : n0 ≤ H.n) : Bl n0 H H' := ⟨h.n, fun i hi => h.at' i (Nat.lt_of_lt_of_le hi hn)⟩
theorem Bl.ext {n0 : Nat} {H0 H H' : AH} (h : Bl n0 H H') (he : Ext H0 H) (hn : H0.n ≤ n0) : Ext H0 H' := ⟨Nat.le_trans he.n h.n, fun i hi => (h.at' i (Nat.lt_of_lt_of_le hi hn)).trans (he.at' i hi)⟩
theorem EncS.ext {H H' : AH} {n0 pid : Nat} {s : EncSt} (h : EncS H n0 pid s) (he : Ext H H') : EncS H' n0 pid s := by
  obtain ⟨⟨bv, mid, h1, h2, h3, h4, h5⟩, h6⟩ := h
  exact ⟨⟨bv, mid, h1.ext he, Mn.ext h2 he, Nat.lt_of_lt_of_le h3 he.n, (he.at' _ h3).trans h4, h5⟩, h6⟩
theorem EncS.lt {H : AH} {n0 pid : Nat} {s : EncSt} (h : EncS H n0 pid s) : pid < H.n ∧ n0 ≤ H.n := by
  obtain ⟨⟨bv, mid, h1, -⟩, h6⟩ := h
  exact ⟨h1.lt, Nat.le_trans h6 (Nat.le_of_lt h1.lt)⟩
def T_put (C : Tab) (f : Nat) : Prop := ∀ (n0 pid : Nat) (s : EncSt) (t : List UInt8) (H : AH), EncS H n0 pid s → s.1.length + t.length ≤ 1099511627776 → ∃ v H', C f [.pv pid 0, .s t] H = some (v, H') ∧ v = .tp [] ∧ EncS H' n0 pid (s.1 ++ t, s.2) ∧ Bl n0 H H'
section
variable {C : Tab}
/-- Bytes appended to what is written: at any frame. -/
theorem EncS.ap {H : AH} {n0 pid : Nat} {s : EncSt} (h : EncS H n0 pid s) {y : AV} {t : List UInt8} (hl : s.1.length + t.length ≤ 1099511627776) : ∃ bv mid, Obj1 H pid [bv, .mp mid] ∧ Mb H bv s.1 ∧
    ∀ (L : List Lv) (g : Nat), (srcV ⟨L, g, H⟩ y = encB t ∧ srcC ⟨L, g, H⟩ 1 y) → apC ⟨L, g, H⟩ 1 1 y bv ∧ ∃ bv' H1, apV ⟨L, g, H⟩ y bv = bv' ∧ apM ⟨L, g, H⟩ 1 y bv = ⟨L, g, H1⟩ ∧ bv'.outs = true ∧ bv'.cells = [bv'] ∧
      (∀ (L : List Lv) (g : Nat), stC ⟨L, g, H1⟩ bv' (.pv pid 0)) ∧ ∃ H2, (∀ (L : List Lv) (g : Nat), stM ⟨L, g, H1⟩ bv' (.pv pid 0) = ⟨L, g, H2⟩) ∧ EncS H2 n0 pid (s.1 ++ t, s.2) ∧ Bl n0 H H2 := by
  obtain ⟨⟨bv, mid, h1, h2, h3, h4, h5, h6, h7, h8, h9⟩, hge⟩ := h
  refine ⟨bv, mid, h1, h2, fun L g hy => ?_⟩
  obtain ⟨p1, bv', H1, p2, p3, p4, p5, p6, p7, -⟩ := Mn.ap (by' := 1) h2 hy (by simp; omega)
  have hb : Mb H1 bv' (s.1 ++ t) := by unfold Mb; rw [enc_app]; exact p4
  have ob1 : Obj1 H1 pid [bv, .mp mid] := h1.fr p5 (p6 _ h1.lt h5)
  have hpid : ¬ pid ∈ idA bv' := fun hh => by
    rcases p7 _ hh with hh | hh
    · exact h5 hh
    · have := h1.lt; omega
  have hmid : ¬ mid ∈ idA bv' := fun hh => by
    rcases p7 _ hh with hh | hh
    · exact h7 hh
    · omega
  have hone := hb.sl.one
  obtain ⟨q1, H2, q2, q3, q4, q5⟩ := ob1.st (off := 0) (v := bv') (by simp) hone
  refine ⟨p1, bv', H1, p2, p3, hb.sl.out, hone, q1, H2, q2, ⟨⟨bv', mid, q3, Mn.fr hb (Nat.le_of_eq q4.symm) (fun i hi => q5 i fun hm => by simp only [List.mem_singleton] at hm; subst hm; exact hpid hi), by omega, ?_, hpid, h6, hmid, h8, fun i hi => ?_⟩, hge⟩, ⟨by omega, fun i hi => ?_⟩⟩
  · rw [q5 mid (by simpa using h6), p6 mid h3 h7]; exact h4
  · rcases p7 _ hi with hh | hh
    · exact h9 i hh
    · have := h1.lt; omega
  · rw [q5 i (by simp; omega), p6 i (by have := h1.lt; omega) fun hh => by have := h9 i hh; omega]
theorem r_put {n0 pid : Nat} {s : EncSt} {t : List UInt8} {H : AH} (h : EncS H n0 pid s) (hl : s.1.length + t.length ≤ 1099511627776) :
    Runs C c_impl_encoder_put [.pv pid 0, .s t] H fun v H' => v = .tp [] ∧ EncS H' n0 pid (s.1 ++ t, s.2) ∧ Bl n0 H H' := by
  unfold Runs c_impl_encoder_put
  obtain ⟨bv, mid, h1, h2, hap⟩ := h.ap (y := .s t) (t := t) hl
  obtain ⟨a1, a2⟩ := h1.ld (off := 0) (by simp)
  have a2' := fun (L : List Lv) (g : Nat) => (a2 L g).trans (show _ = bv from rfl)
  obtain ⟨p1, bv', H1, p2, p3, p4, p5, p6, H2, p7, p8, p9⟩ := hap [] 0 ⟨rfl, rfl⟩
  simp -implicitDefEqProofs only [bU, reduceIte, Nat.reduceEqDiff, reduceCtorEq, implies_true, forall_const, eq_self, Nat.reduceAdd, Nat.reduceLT, bne_self_eq_false, bT, eq_self, true_implies, false_implies, forall_const, if_true, if_false, Int.reduceToNat, Nat.reduceSub, Int.reduceLE, Nat.zero_add, Nat.add_zero, pv_faC, pv_faV, a1, a2', p1, p2, p3, p4, p5, p6, p7, endK, rsC, rsV, resV]
  exact ⟨p8, p9⟩
theorem r_flag {b : Bool} {k : Int} {H : AH} (h0 : 0 ≤ k) (hk : k ≤ 62) : Runs C c_impl_flag [.b b, .i .u64 k] H fun v H' => H' = H ∧ v = .i .i64 (if b then 2 ^ k.toNat else 0) := by
  unfold Runs c_impl_flag
  have hm : min k.toNat IntKind.i64.bits = k.toNat := by
    have : IntKind.i64.bits = 64 := rfl
    omega
  have hp : (1 : Int) * 2 ^ k.toNat ≤ 2 ^ 62 := by
    rw [Int.one_mul]
    exact_mod_cast Nat.pow_le_pow_right (n := 2) (by decide) (show k.toNat ≤ 62 by omega)
  have hp2 : (0 : Int) ≤ 1 * 2 ^ k.toNat := by rw [Int.one_mul]; exact Int.le_of_lt (Int.pow_pos (by decide))
  have hw : IntKind.i64.wrap (1 * 2 ^ k.toNat) = 2 ^ k.toNat := by
    rw [w64 (by omega) (by have : (2 : Int) ^ 62 = 4611686018427387904 := by decide
                           omega), Int.one_mul]
  cases b
  · simp -implicitDefEqProofs only [bU, reduceIte, Nat.reduceEqDiff, reduceCtorEq, implies_true, forall_const, eq_self, Nat.reduceAdd, Nat.reduceLT, bne_self_eq_false, bT, eq_self, true_implies, false_implies, forall_const, if_true, if_false, Int.reduceToNat, Nat.reduceSub, Int.reduceLE, Bool.false_eq_true, if_false, endK, rsC, rsV, resV]
  · simp -implicitDefEqProofs only [bU, reduceIte, Nat.reduceEqDiff, reduceCtorEq, implies_true, forall_const, eq_self, Nat.reduceAdd, Nat.reduceLT, bne_self_eq_false, bT, eq_self, true_implies, false_implies, forall_const, if_true, if_false, Int.reduceToNat, Nat.reduceSub, Int.reduceLE, h0, hm, hw, if_true, endK, rsC, rsV, resV]
def hasP (t : Int) : Bool := decide (t = 2 ∨ t = 5 ∨ t = 12 ∨ t = 15 ∨ t = 6)
theorem r_hasPointers {t : Int} {H : AH} : Runs C c_impl_hasPointers [.i .i64 t] H fun v H' => H' = H ∧ v = .b (hasP t) := by
  unfold Runs c_impl_hasPointers hasP
  by_cases h1 : t = 2
  · subst h1; simp -implicitDefEqProofs only [bU, reduceIte, Nat.reduceEqDiff, reduceCtorEq, implies_true, forall_const, eq_self, Nat.reduceAdd, Nat.reduceLT, bne_self_eq_false, bT, eq_self, true_implies, false_implies, forall_const, if_true, if_false, Int.reduceToNat, Nat.reduceSub, Int.reduceLE, endK, rsC, rsV, resV]; simp
  by_cases h2 : t = 5
  · subst h2; simp -implicitDefEqProofs only [bU, reduceIte, Nat.reduceEqDiff, reduceCtorEq, implies_true, forall_const, eq_self, Nat.reduceAdd, Nat.reduceLT, bne_self_eq_false, bT, eq_self, true_implies, false_implies, forall_const, if_true, if_false, Int.reduceToNat, Nat.reduceSub, Int.reduceLE, Int.reduceEq, endK, rsC, rsV, resV]; simp
  by_cases h3 : t = 12
  · subst h3; simp -implicitDefEqProofs only [bU, reduceIte, Nat.reduceEqDiff, reduceCtorEq, implies_true, forall_const, eq_self, Nat.reduceAdd, Nat.reduceLT, bne_self_eq_false, bT, eq_self, true_implies, false_implies, forall_const, if_true, if_false, Int.reduceToNat, Nat.reduceSub, Int.reduceLE, Int.reduceEq, endK, rsC, rsV, resV]; simp
  by_cases h4 : t = 15
  · subst h4; simp -implicitDefEqProofs only [bU, reduceIte, Nat.reduceEqDiff, reduceCtorEq, implies_true, forall_const, eq_self, Nat.reduceAdd, Nat.reduceLT, bne_self_eq_false, bT, eq_self, true_implies, false_implies, forall_const, if_true, if_false, Int.reduceToNat, Nat.reduceSub, Int.reduceLE, Int.reduceEq, endK, rsC, rsV, resV]; simp
  by_cases h5 : t = 6
  · subst h5; simp -implicitDefEqProofs only [bU, reduceIte, Nat.reduceEqDiff, reduceCtorEq, implies_true, forall_const, eq_self, Nat.reduceAdd, Nat.reduceLT, bne_self_eq_false, bT, eq_self, true_implies, false_implies, forall_const, if_true, if_false, Int.reduceToNat, Nat.reduceSub, Int.reduceLE, Int.reduceEq, endK, rsC, rsV, resV]; simp
  simp -implicitDefEqProofs only [bU, reduceIte, Nat.reduceEqDiff, reduceCtorEq, implies_true, forall_const, eq_self, Nat.reduceAdd, Nat.reduceLT, bne_self_eq_false, bT, eq_self, true_implies, false_implies, forall_const, if_true, if_false, Int.reduceToNat, Nat.reduceSub, Int.reduceLE, h1, h2, h3, h4, h5, endK, rsC, rsV, resV]
  simp
end
end Go.Vm
