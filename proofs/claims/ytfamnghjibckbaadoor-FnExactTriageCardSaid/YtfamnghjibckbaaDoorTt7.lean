import Derived.Test.YtfamnghjibckbaaDoorTt3
import Derived.Test.YtfamnghjibckbaaDoorProg
import Derived.KernelRfl
import Derived.Test.YtfamnghjibckbaaDoorTt6
/- Functions' code as literals of the abstract machine, printed by wip/tools/lits.py; the kernel checks each against the translation. -/
namespace Go.Vm
set_option linter.unusedVariables false
set_option linter.unusedSimpArgs false
/-- loop.example/s01858/laws.FnExactTriage -/
def c_laws_FnExactTriage : Fn := ⟨1, [(.t 2)],
    .q (.o [.mv 2 (.c (.b false))])
    (.q (.q (.o [.mv 6 (.t 0),
      .ln 7 (.t 6),
      .bn 8 .gtr (.t 7) (.c (.i .i64 1048576))])
    (.i (.t 8) (.q (.o [.mv 2 (.c (.b true))])
    (.r))
    (.k)))
    (.q (.o [.mv 9 (.t 0),
      .cl (some 10) 20 [(.t 9)],
      .cl (some 11) 19 [(.t 10)],
      .mv 3 (.t 11)])
    (.q (.o [.mv 12 (.t 0),
      .cl (some 13) 20 [(.t 12)],
      .mv 4 (.t 13)])
    (.q (.o [.mv 14 (.t 4),
      .cl (some 15) 21 [(.t 14)],
      .mv 5 (.t 15)])
    (.q (.q (.o [.mv 16 (.t 5),
      .mv 17 (.t 3),
      .bn 18 .neq (.t 16) (.t 17)])
    (.i (.t 18) (.q (.o [.mv 2 (.c (.b false))])
    (.r))
    (.k)))
    (.q (.q (.o [.mv 19 (.t 4),
      .mv 20 (.t 0),
      .cl (some 21) 20 [(.t 20)],
      .cl (some 22) 22 [(.t 19), (.t 21)],
      .un 23 .not (.t 22)])
    (.i (.t 23) (.q (.o [.mv 2 (.c (.b false))])
    (.r))
    (.k)))
    (.q (.o [.mv 2 (.c (.b true))])
    (.r))))))))⟩
abbrev n_laws_FnExactTriage : Nat := 5
theorem k_laws_FnExactTriage : chkF Go.Proofs.Tryd.prog c_laws_FnExactTriage 5 = true := by kernel_rfl
/-- loop.example/s01858/spec.Triage -/
def c_spec_Triage : Fn := ⟨1, [(.t 2)],
    .q (.o [.mv 2 (.c (.i .i64 0))])
    (.q (.o [.mv 9 (.t 0),
      .cl (some 10) 54 [(.t 9)],
      .mv 8 (.t 10),
      .ex 11 (.t 8) 0,
      .ex 12 (.t 8) 1,
      .ex 13 (.t 8) 2,
      .lal 3 (.ag [(.i .i64 0), (.b false), (.i .i64 0), (.b false), (.b false), (.b false), (.b false), (.b false), (.b false), (.b false), (.i .i64 0)]),
      .lal 4 (.ag [(.i .i64 0), (.i .i64 0), (.i .i64 0), (.i .i64 0)]),
      .st (.t 3) (.t 11) 11,
      .st (.t 4) (.t 12) 4,
      .mv 5 (.t 13)])
    (.q (.q (.o [.mv 14 (.t 5),
      .bn 15 .neq (.t 14) (.c (.i .i64 0)),
      .mv 16 (.t 15),
      .gd 16 false (.fa 17 (.t 3) 1),
      .gd 16 false (.ld 18 (.t 17) none),
      .pk 19 (.t 16) (.c (.b true)) (.t 18)])
    (.i (.t 19) (.q (.o [.mv 2 (.c (.i .i64 1))])
    (.r))
    (.k)))
    (.q (.o [.mv 21 (.t 0),
      .cl (some 22) 55 [(.t 21)],
      .mv 20 (.t 22),
      .ex 23 (.t 20) 0,
      .ex 24 (.t 20) 1,
      .lal 6 (.ag [(.i .i64 0), (.b false), (.i .i64 0), (.b false), (.b false), (.b false), (.b false), (.b false), (.b false), (.b false), (.i .i64 0), .ns, .ns, .ns, .ns]),
      .st (.t 6) (.t 23) 15,
      .mv 5 (.t 24)])
    (.q (.q (.o [.mv 25 (.t 5),
      .bn 26 .neq (.t 25) (.c (.i .i64 0)),
      .mv 27 (.t 26),
      .gd 27 false (.fa 28 (.t 6) 11),
      .gd 27 false (.ld 29 (.t 28) none),
      .gd 27 false (.ln 30 (.t 29)),
      .gd 27 false (.bn 31 .neq (.t 30) (.c (.i .i64 1))),
      .pk 32 (.t 27) (.c (.b true)) (.t 31)])
    (.i (.t 32) (.q (.o [.mv 2 (.c (.i .i64 2))])
    (.r))
    (.k)))
    (.q (.o [.ld 34 (.t 6) (some 15),
      .cl (some 35) 56 [(.t 34)],
      .mv 33 (.t 35),
      .ex 36 (.t 33) 0,
      .ex 37 (.t 33) 1,
      .lal 7 (.ag [(.b false), (.i .i64 0), (.i .i64 0), (.i .i64 0), .ns]),
      .st (.t 7) (.t 36) 5,
      .mv 5 (.t 37)])
    (.q (.q (.o [.mv 38 (.t 5),
      .bn 39 .neq (.t 38) (.c (.i .i64 0)),
      .mv 40 (.t 39),
      .gd 40 false (.mv 41 (.t 0)),
      .gd 40 false (.cl (some 42) 57 [(.t 41), (.c .ns), (.c (.i .i64 0)), (.c (.s []))]),
      .gd 40 false (.fd 43 (.t 42) 0 none),
      .gd 40 false (.bn 44 .eql (.t 43) (.c (.i .i64 32))),
      .pk 45 (.t 40) (.c (.b true)) (.t 44)])
    (.i (.t 45) (.q (.o [.mv 2 (.c (.i .i64 2))])
    (.r))
    (.k)))
    (.q (.b 0 (.q (.o [.fa 47 (.t 6) 0,
      .fa 48 (.t 47) 2,
      .ld 49 (.t 48) none,
      .bn 50 .neq (.t 49) (.c (.i .i64 0)),
      .mv 51 (.t 50),
      .gd 51 true (.fa 52 (.t 6) 0),
      .gd 51 true (.fa 53 (.t 52) 2),
      .gd 51 true (.ld 54 (.t 53) none),
      .gd 51 true (.bn 55 .neq (.t 54) (.c (.i .i64 5))),
      .pk 56 (.t 51) (.t 55) (.c (.b false)),
      .mv 46 (.t 56)])
    (.i (.t 46) (.q (.o [.mv 2 (.c (.i .i64 3))])
    (.r))
    (.q (.o [.fa 58 (.t 7) 2,
      .ld 59 (.t 58) none,
      .bn 60 .gtr (.t 59) (.c (.i .i64 0)),
      .mv 57 (.t 60)])
    (.i (.t 57) (.q (.o [.mv 2 (.c (.i .i64 4))])
    (.r))
    (.q (.o [.fa 62 (.t 6) 0,
      .fa 63 (.t 62) 2,
      .ld 64 (.t 63) none,
      .bn 65 .eql (.t 64) (.c (.i .i64 5)),
      .mv 61 (.t 65)])
    (.i (.t 61) (.q (.o [.mv 2 (.c (.i .i64 5))])
    (.r))
    (.k))))))))
    (.q (.o [.mv 2 (.c (.i .i64 6))])
    (.r)))))))))⟩
abbrev n_spec_Triage : Nat := 19
theorem k_spec_Triage : chkF Go.Proofs.Tryd.prog c_spec_Triage 19 = true := by kernel_rfl
/-- loop.example/s01858/impl.Triage -/
def c_impl_Triage : Fn := ⟨1, [(.t 2)],
    .q (.o [.mv 2 (.c (.i .i64 0))])
    (.q (.o [.mv 7 (.t 0),
      .cl (some 8) 58 [(.t 7)],
      .mv 6 (.t 8),
      .ex 9 (.t 6) 0,
      .ex 10 (.t 6) 1,
      .ex 11 (.t 6) 2,
      .lal 4 (.ag [(.i .i64 0), (.b false), (.i .i64 0), (.b false), (.b false), (.b false), (.b false), (.b false), (.b false), (.b false), (.i .i64 0), .ns, .ns, .ns, .ns]),
      .lal 5 (.ag [(.b false), (.i .i64 0), (.i .i64 0), (.i .i64 0), .ns]),
      .mv 3 (.t 9),
      .st (.t 4) (.t 10) 15,
      .st (.t 5) (.t 11) 5])
    (.q (.o [.mv 12 (.t 3),
      .mv 2 (.t 12)])
    (.r)))⟩
abbrev n_impl_Triage : Nat := 21
theorem k_impl_Triage : chkF Go.Proofs.Tryd.prog c_impl_Triage 21 = true := by kernel_rfl
/-- loop.example/s01858/spec.DecodeHead -/
def c_spec_DecodeHead : Fn := ⟨1, [(.c 2 (some 11)), (.c 3 (some 4)), (.t 4)],
    .q (.o [.lal 2 (.ag [(.i .i64 0), (.b false), (.i .i64 0), (.b false), (.b false), (.b false), (.b false), (.b false), (.b false), (.b false), (.i .i64 0)]),
      .lal 3 (.ag [(.i .i64 0), (.i .i64 0), (.i .i64 0), (.i .i64 0)]),
      .mv 4 (.c (.i .i64 0))])
    (.q (.o [.bd 10 [(.i .i64 0), (.i .i64 0), (.i .i64 0), (.i .i64 0)] [],
      .lal 5 (.ag [(.i .i64 0), (.i .i64 0), (.i .i64 0), (.i .i64 0)]),
      .st (.t 5) (.t 10) 4])
    (.q (.q (.o [.mv 11 (.t 0),
      .ln 12 (.t 11),
      .bn 13 .lss (.t 12) (.c (.i .i64 12))])
    (.i (.t 13) (.q (.p [⟨.bd 14 [(.i .i64 0), (.b false), (.i .i64 0), (.b false), (.b false), (.b false), (.b false), (.b false), (.b false), (.b false), (.i .i64 0)] [], [], false⟩,
      ⟨.ld 15 (.t 5) (some 4), [], true⟩,
      ⟨.st (.t 2) (.t 14) 11, [1], false⟩,
      ⟨.st (.t 3) (.t 15) 4, [], false⟩,
      ⟨.mv 4 (.c (.i .i64 8)), [], false⟩])
    (.r))
    (.k)))
    (.q (.o [.mv 16 (.t 0),
      .sl 17 (.t 16) none (some (.c (.i .i64 12))) 1,
      .cbs 18 (.t 17),
      .mv 6 (.t 18)])
    (.q (.o [.mv 19 (.t 6),
      .ss 20 (.t 19) (some (.c (.i .i64 2))) (some (.c (.i .i64 4))),
      .cl (some 21) 83 [(.t 20)],
      .mv 7 (.t 21)])
    (.q (.o [.mv 22 (.t 6),
      .ss 23 (.t 22) none (some (.c (.i .i64 2))),
      .cl (some 24) 83 [(.t 23)],
      .mv 25 (.t 7),
      .cl (some 26) 84 [(.t 25), (.c (.i .i64 15))],
      .mv 27 (.t 7),
      .bn 28 .shr (.t 27) (.c (.i .u64 11)),
      .bn 29 .and (.t 28) (.c (.i .i64 15)),
      .mv 30 (.t 7),
      .cl (some 31) 84 [(.t 30), (.c (.i .i64 10))],
      .mv 32 (.t 7),
      .cl (some 33) 84 [(.t 32), (.c (.i .i64 9))],
      .mv 34 (.t 7),
      .cl (some 35) 84 [(.t 34), (.c (.i .i64 8))],
      .mv 36 (.t 7),
      .cl (some 37) 84 [(.t 36), (.c (.i .i64 7))],
      .mv 38 (.t 7),
      .cl (some 39) 84 [(.t 38), (.c (.i .i64 6))],
      .mv 40 (.t 7),
      .cl (some 41) 84 [(.t 40), (.c (.i .i64 5))],
      .mv 42 (.t 7),
      .cl (some 43) 84 [(.t 42), (.c (.i .i64 4))],
      .mv 44 (.t 7),
      .bn 45 .and (.t 44) (.c (.i .i64 15)),
      .bd 46 [(.i .i64 0), (.b false), (.i .i64 0), (.b false), (.b false), (.b false), (.b false), (.b false), (.b false), (.b false), (.i .i64 0)] [(0, 1, (.t 24)), (1, 1, (.t 26)), (2, 1, (.t 29)), (3, 1, (.t 31)), (4, 1, (.t 33)), (5, 1, (.t 35)), (6, 1, (.t 37)), (7, 1, (.t 39)), (8, 1, (.t 41)), (9, 1, (.t 43)), (10, 1, (.t 45))],
      .lal 8 (.ag [(.i .i64 0), (.b false), (.i .i64 0), (.b false), (.b false), (.b false), (.b false), (.b false), (.b false), (.b false), (.i .i64 0)]),
      .st (.t 8) (.t 46) 11])
    (.q (.q (.o [.mv 9 (.c (.i .i64 0))])
    (.b 0 (.l [2, 3, 5, 6, 8, 9] (.q (.q (.o [.mv 47 (.t 9),
      .bn 48 .lss (.t 47) (.c (.i .i64 4))])
    (.i (.t 48) (.k)
    (.x 0)))
    (.q (.b 1 (.o [.mv 51 (.t 9),
      .mv 52 (.t 6),
      .mv 53 (.t 9),
      .bn 54 .mul (.c (.i .i64 2)) (.t 53),
      .bn 55 .add (.c (.i .i64 4)) (.t 54),
      .mv 56 (.t 9),
      .bn 57 .mul (.c (.i .i64 2)) (.t 56),
      .bn 58 .add (.c (.i .i64 6)) (.t 57),
      .ss 59 (.t 52) (some (.t 55)) (some (.t 58)),
      .cl (some 60) 83 [(.t 59)],
      .iaa 61 (.t 5) (.t 51) 4 1,
      .st (.t 61) (.t 60) 1]))
    (.o [.mv 49 (.t 9),
      .bn 50 .add (.t 49) (.c (.i .i64 1)),
      .mv 9 (.t 50)]))))))
    (.q (.p [⟨.ld 62 (.t 8) (some 11), [], false⟩,
      ⟨.ld 63 (.t 5) (some 4), [], true⟩,
      ⟨.st (.t 2) (.t 62) 11, [1], false⟩,
      ⟨.st (.t 3) (.t 63) 4, [], false⟩,
      ⟨.mv 4 (.c (.i .i64 0)), [], false⟩])
    (.r))))))))⟩
abbrev n_spec_DecodeHead : Nat := 54
theorem k_spec_DecodeHead : chkF Go.Proofs.Tryd.prog c_spec_DecodeHead 54 = true := by kernel_rfl
/-- loop.example/s01858/spec.Decode -/
def c_spec_Decode : Fn := ⟨1, [(.c 2 (some 15)), (.t 3)],
    .q (.o [.lal 2 (.ag [(.i .i64 0), (.b false), (.i .i64 0), (.b false), (.b false), (.b false), (.b false), (.b false), (.b false), (.b false), (.i .i64 0), .ns, .ns, .ns, .ns]),
      .mv 3 (.c (.i .i64 0))])
    (.q (.o [.mv 8 (.t 0),
      .cl (some 9) 85 [(.t 8)],
      .mv 7 (.t 9),
      .ex 10 (.t 7) 0,
      .ex 11 (.t 7) 1,
      .ex 12 (.t 7) 2,
      .lal 4 (.ag [(.i .i64 0), (.b false), (.i .i64 0), (.b false), (.b false), (.b false), (.b false), (.b false), (.b false), (.b false), (.i .i64 0), .ns, .ns, .ns, .ns]),
      .st (.t 4) (.t 10) 15,
      .mv 5 (.t 11),
      .mv 6 (.t 12)])
    (.q (.o [.ld 13 (.t 4) (some 15),
      .mv 14 (.t 6),
      .st (.t 2) (.t 13) 15,
      .mv 3 (.t 14)])
    (.r)))⟩
abbrev n_spec_Decode : Nat := 55
theorem k_spec_Decode : chkF Go.Proofs.Tryd.prog c_spec_Decode 55 = true := by kernel_rfl
/-- loop.example/s01858/spec.Verify -/
def c_spec_Verify : Fn := ⟨4, [(.c 8 (some 5))],
    .q (.o [.lal 8 (.ag [(.i .i64 0), (.b false), (.i .i64 0), (.s []), .ns])])
    (.q (.o [.bd 22 [(.i .i64 0), (.b false), (.i .i64 0), (.s []), .ns] [(0, 1, (.c (.i .i64 32)))],
      .lal 9 (.ag [(.i .i64 0), (.b false), (.i .i64 0), (.s []), .ns]),
      .st (.t 9) (.t 22) 5])
    (.q (.o [.mv 24 (.t 0),
      .cl (some 25) 85 [(.t 24)],
      .mv 23 (.t 25),
      .ex 26 (.t 23) 0,
      .ex 27 (.t 23) 1,
      .ex 28 (.t 23) 2,
      .lal 10 (.ag [(.i .i64 0), (.b false), (.i .i64 0), (.b false), (.b false), (.b false), (.b false), (.b false), (.b false), (.b false), (.i .i64 0), .ns, .ns, .ns, .ns]),
      .st (.t 10) (.t 26) 15,
      .mv 11 (.t 27),
      .mv 12 (.t 28)])
    (.q (.q (.o [.mv 29 (.t 12),
      .bn 30 .neq (.t 29) (.c (.i .i64 0)),
      .mv 31 (.t 30),
      .gd 31 false (.mv 32 (.t 1)),
      .gd 31 false (.ln 33 (.t 32)),
      .gd 31 false (.bn 34 .gtr (.t 33) (.c (.i .i64 8))),
      .pk 35 (.t 31) (.c (.b true)) (.t 34),
      .mv 36 (.t 35),
      .gd 36 false (.mv 37 (.t 2)),
      .gd 36 false (.cl (some 38) 26 [(.t 37), (.c (.i .i64 281474976710655))]),
      .gd 36 false (.un 39 .not (.t 38)),
      .pk 40 (.t 36) (.c (.b true)) (.t 39),
      .mv 41 (.t 40),
      .gd 41 false (.mv 42 (.t 3)),
      .gd 41 false (.lns 43 (.t 42)),
      .gd 41 false (.bn 44 .gtr (.t 43) (.c (.i .i64 32))),
      .pk 45 (.t 41) (.c (.b true)) (.t 44),
      .mv 46 (.t 45),
      .gd 46 false (.ld 47 (.t 10) (some 15)),
      .gd 46 false (.cl (some 48) 88 [(.t 47)]),
      .pk 49 (.t 46) (.c (.b true)) (.t 48)])
    (.i (.t 49) (.q (.o [.ld 50 (.t 9) (some 5),
      .st (.t 8) (.t 50) 5])
    (.r))
    (.k)))
    (.q (.q (.o [.mv 13 (.c (.i .i64 0))])
    (.b 0 (.l [0, 1, 2, 3, 8, 9, 10, 11, 13] (.q (.q (.o [.mv 51 (.t 13),
      .mv 52 (.t 1),
      .ln 53 (.t 52),
      .bn 54 .lss (.t 51) (.t 53)])
    (.i (.t 54) (.k)
    (.x 0)))
    (.q (.b 1 (.q (.o [.mv 57 (.t 1),
      .mv 58 (.t 13),
      .ia 59 (.t 57) (.t 58) 2,
      .ld 60 (.t 59) (some 2),
      .cl (some 61) 89 [(.t 60)],
      .un 62 .not (.t 61)])
    (.i (.t 62) (.q (.o [.ld 63 (.t 9) (some 5),
      .st (.t 8) (.t 63) 5])
    (.r))
    (.k))))
    (.o [.mv 55 (.t 13),
      .bn 56 .add (.t 55) (.c (.i .i64 1)),
      .mv 13 (.t 56)]))))))
    (.q (.o [.bd 64 [(.i .i64 0), (.b false), (.i .i64 0), (.s []), .ns] [(2, 1, (.c (.i .i64 (-1))))],
      .lal 14 (.ag [(.i .i64 0), (.b false), (.i .i64 0), (.s []), .ns]),
      .st (.t 14) (.t 64) 5])
    (.q (.q (.o [.fa 65 (.t 10) 14,
      .ld 66 (.t 65) none,
      .ln 67 (.t 66),
      .bn 68 .eql (.t 67) (.c (.i .i64 0)),
      .mv 69 (.t 68),
      .gd 69 false (.fa 70 (.t 10) 14),
      .gd 69 false (.ld 71 (.t 70) none),
      .gd 69 false (.fa 72 (.t 10) 14),
      .gd 69 false (.ld 73 (.t 72) none),
      .gd 69 false (.ln 74 (.t 73)),
      .gd 69 false (.bn 75 .sub (.t 74) (.c (.i .i64 1))),
      .gd 69 false (.ia 76 (.t 71) (.t 75) 5),
      .gd 69 false (.fa 77 (.t 76) 1),
      .gd 69 false (.ld 78 (.t 77) none),
      .gd 69 false (.bn 79 .neq (.t 78) (.c (.i .i64 250))),
      .pk 80 (.t 69) (.c (.b true)) (.t 79)])
    (.i (.t 80) (.q (.o [.mv 81 (.t 0),
      .cbs 82 (.t 81),
      .csb 83 (.t 82),
      .fa 84 (.t 14) 4,
      .st (.t 84) (.t 83) 1])
    (.q (.o [.ld 85 (.t 14) (some 5),
      .st (.t 8) (.t 85) 5])
    (.r)))
    (.k)))
    (.q (.o [.fa 86 (.t 10) 14,
      .ld 87 (.t 86) none,
      .fa 88 (.t 10) 14,
      .ld 89 (.t 88) none,
      .ln 90 (.t 89),
      .bn 91 .sub (.t 90) (.c (.i .i64 1)),
      .ia 92 (.t 87) (.t 91) 5,
      .ld 93 (.t 92) (some 5),
      .lal 15 (.ag [(.s []), (.i .i64 0), (.i .i64 0), (.i .i64 0), (.s [])]),
      .st (.t 15) (.t 93) 5])
    (.q (.o [.ld 95 (.t 15) (some 5),
      .cl (some 96) 90 [(.t 95)],
      .mv 94 (.t 96),
      .ex 97 (.t 94) 0,
      .ex 98 (.t 94) 1,
      .mv 16 (.t 97),
      .mv 17 (.t 98)])
    (.q (.q (.o [.mv 99 (.t 17),
      .un 100 .not (.t 99)])
    (.i (.t 100) (.q (.o [.ld 101 (.t 9) (some 5),
      .st (.t 8) (.t 101) 5])
    (.r))
    (.k)))
    (.q (.o [.mv 102 (.t 0),
      .cbs 103 (.t 102),
      .mv 18 (.t 103)])
    (.q (.p [⟨.mv 104 (.t 16), [], false⟩,
      ⟨.ia 105 (.t 104) (.c (.i .i64 3)) 1, [], true⟩,
      ⟨.ld 106 (.t 105) none, [], true⟩,
      ⟨.mv 107 (.t 18), [], false⟩,
      ⟨.ss 108 (.t 107) (some (.c (.i .i64 2))) (some (.c (.i .i64 10))), [], false⟩,
      ⟨.bn 109 .add (.t 106) (.t 108), [], false⟩,
      ⟨.fa 110 (.t 10) 14, [], false⟩,
      ⟨.ld 111 (.t 110) none, [], false⟩,
      ⟨.ln 112 (.t 111), [], false⟩,
      ⟨.bn 113 .sub (.t 112) (.c (.i .i64 1)), [], false⟩,
      ⟨.cl (some 114) 27 [(.t 113), (.c (.i .i64 2))], [1, 2], false⟩,
      ⟨.bn 115 .add (.t 109) (.t 114), [], false⟩,
      ⟨.mv 116 (.t 18), [], false⟩,
      ⟨.mv 117 (.t 11), [], false⟩,
      ⟨.ss 118 (.t 116) (some (.c (.i .i64 12))) (some (.t 117)), [], false⟩,
      ⟨.bn 119 .add (.t 115) (.t 118), [], false⟩,
      ⟨.mv 19 (.t 119), [], false⟩])
    (.q (.o [.fa 120 (.t 14) 1,
      .st (.t 120) (.c (.b true)) 1])
    (.q (.o [.mv 121 (.t 16),
      .ia 122 (.t 121) (.c (.i .i64 2)) 1,
      .ld 123 (.t 122) none,
      .fa 124 (.t 14) 3,
      .st (.t 124) (.t 123) 1])
    (.q (.o [.mv 125 (.t 19),
      .csb 126 (.t 125),
      .fa 127 (.t 14) 4,
      .st (.t 127) (.t 126) 1])
    (.q (.o [.fa 128 (.t 14) 0,
      .st (.t 128) (.c (.i .i64 29)) 1])
    (.q (.q (.o [.mv 129 (.t 1),
      .ln 130 (.t 129),
      .bn 131 .sub (.t 130) (.c (.i .i64 1)),
      .mv 20 (.t 131)])
    (.b 2 (.l [1, 2, 3, 8, 14, 15, 16, 19, 20] (.q (.q (.o [.mv 132 (.t 20),
      .bn 133 .geq (.t 132) (.c (.i .i64 0))])
    (.i (.t 133) (.k)
    (.x 2)))
    (.q (.b 3 (.q (.p [⟨.mv 136 (.t 1), [], false⟩,
      ⟨.mv 137 (.t 20), [], false⟩,
      ⟨.ia 138 (.t 136) (.t 137) 2, [], false⟩,
      ⟨.fa 139 (.t 138) 0, [], false⟩,
      ⟨.ld 140 (.t 139) none, [], false⟩,
      ⟨.fa 141 (.t 15) 0, [], false⟩,
      ⟨.ld 142 (.t 141) none, [], false⟩,
      ⟨.cl (some 143) 91 [(.t 140), (.t 142)], [], false⟩])
    (.i (.t 143) (.o [.mv 144 (.t 20),
      .fa 145 (.t 14) 2,
      .st (.t 145) (.t 144) 1])
    (.k))))
    (.o [.mv 134 (.t 20),
      .bn 135 .sub (.t 134) (.c (.i .i64 1)),
      .mv 20 (.t 135)]))))))
    (.q (.q (.o [.fa 146 (.t 14) 2,
      .ld 147 (.t 146) none,
      .bn 148 .lss (.t 147) (.c (.i .i64 0))])
    (.i (.t 148) (.q (.o [.ld 149 (.t 14) (some 5),
      .st (.t 8) (.t 149) 5])
    (.r))
    (.k)))
    (.q (.q (.p [⟨.mv 150 (.t 1), [], false⟩,
      ⟨.fa 151 (.t 14) 2, [], false⟩,
      ⟨.ld 152 (.t 151) none, [], false⟩,
      ⟨.ia 153 (.t 150) (.t 152) 2, [], false⟩,
      ⟨.ld 154 (.t 153) (some 2), [], false⟩,
      ⟨.mv 155 (.t 19), [], false⟩,
      ⟨.mv 156 (.t 16), [], false⟩,
      ⟨.ia 157 (.t 156) (.c (.i .i64 0)) 1, [], false⟩,
      ⟨.ld 158 (.t 157) none, [], false⟩,
      ⟨.mv 159 (.t 16), [], false⟩,
      ⟨.ia 160 (.t 159) (.c (.i .i64 1)) 1, [], false⟩,
      ⟨.ld 161 (.t 160) none, [], false⟩,
      ⟨.mv 162 (.t 3), [], false⟩,
      ⟨.cl (some 163) 92 [(.t 154), (.t 155), (.t 158), (.t 161), (.t 162)], [], true⟩,
      ⟨.mv 164 (.t 16), [], false⟩,
      ⟨.ia 165 (.t 164) (.c (.i .i64 2)) 1, [13], false⟩,
      ⟨.ld 166 (.t 165) none, [13], false⟩,
      ⟨.bn 167 .neq (.t 163) (.t 166), [], false⟩])
    (.i (.t 167) (.q (.o [.fa 168 (.t 14) 0,
      .st (.t 168) (.c (.i .i64 30)) 1])
    (.q (.o [.ld 169 (.t 14) (some 5),
      .st (.t 8) (.t 169) 5])
    (.r)))
    (.k)))
    (.q (.o [.mv 170 (.t 2),
      .mv 171 (.t 16),
      .ia 172 (.t 171) (.c (.i .i64 0)) 1,
      .ld 173 (.t 172) none,
      .cl (some 174) 83 [(.t 173)],
      .bn 175 .sub (.t 170) (.t 174),
      .mv 21 (.t 175)])
    (.q (.q (.o [.mv 176 (.t 21),
      .bn 177 .lss (.t 176) (.c (.i .i64 0))])
    (.i (.t 177) (.o [.mv 178 (.t 21),
      .un 179 .neg (.t 178),
      .mv 21 (.t 179)])
    (.k)))
    (.q (.o [.fa 180 (.t 14) 0,
      .st (.t 180) (.c (.i .i64 0)) 1])
    (.q (.q (.o [.mv 181 (.t 21),
      .mv 182 (.t 16),
      .ia 183 (.t 182) (.c (.i .i64 1)) 1,
      .ld 184 (.t 183) none,
      .cl (some 185) 83 [(.t 184)],
      .bn 186 .gtr (.t 181) (.t 185)])
    (.i (.t 186) (.o [.fa 187 (.t 14) 0,
      .st (.t 187) (.c (.i .i64 31)) 1])
    (.k)))
    (.q (.o [.ld 188 (.t 14) (some 5),
      .st (.t 8) (.t 188) 5])
    (.r))))))))))))))))))))))))⟩
abbrev n_spec_Verify : Nat := 57
theorem k_spec_Verify : chkF Go.Proofs.Tryd.prog c_spec_Verify 57 = true := by kernel_rfl
/-- loop.example/s01858/impl.triaged -/
def c_impl_triaged : Fn := ⟨1, [(.t 2), (.c 3 (some 15)), (.c 4 (some 5))],
    .q (.o [.mv 2 (.c (.i .i64 0)),
      .lal 3 (.ag [(.i .i64 0), (.b false), (.i .i64 0), (.b false), (.b false), (.b false), (.b false), (.b false), (.b false), (.b false), (.i .i64 0), .ns, .ns, .ns, .ns]),
      .lal 4 (.ag [(.b false), (.i .i64 0), (.i .i64 0), (.i .i64 0), .ns])])
    (.q (.o [.mv 12 (.t 0),
      .cl (some 13) 32 [(.t 12)],
      .mv 11 (.t 13),
      .ex 14 (.t 11) 0,
      .ex 15 (.t 11) 1,
      .ex 16 (.t 11) 2,
      .lal 5 (.ag [(.i .i64 0), (.b false), (.i .i64 0), (.b false), (.b false), (.b false), (.b false), (.b false), (.b false), (.b false), (.i .i64 0)]),
      .lal 6 (.ag [(.i .i64 0), (.i .i64 0), (.i .i64 0), (.i .i64 0)]),
      .st (.t 5) (.t 14) 11,
      .st (.t 6) (.t 15) 4,
      .mv 7 (.t 16)])
    (.q (.q (.o [.mv 17 (.t 7),
      .bn 18 .neq (.t 17) (.c (.i .i64 0)),
      .mv 19 (.t 18),
      .gd 19 false (.fa 20 (.t 5) 1),
      .gd 19 false (.ld 21 (.t 20) none),
      .pk 22 (.t 19) (.c (.b true)) (.t 21)])
    (.i (.t 22) (.q (.o [.bd 23 [(.i .i64 0), (.b false), (.i .i64 0), (.b false), (.b false), (.b false), (.b false), (.b false), (.b false), (.b false), (.i .i64 0), .ns, .ns, .ns, .ns] [],
      .bd 24 [(.b false), (.i .i64 0), (.i .i64 0), (.i .i64 0), .ns] [],
      .mv 2 (.c (.i .i64 1)),
      .st (.t 3) (.t 23) 15,
      .st (.t 4) (.t 24) 5])
    (.r))
    (.k)))
    (.q (.o [.mv 26 (.t 0),
      .cl (some 27) 10 [(.t 26)],
      .mv 25 (.t 27),
      .ex 28 (.t 25) 0,
      .ex 29 (.t 25) 1,
      .lal 8 (.ag [(.i .i64 0), (.b false), (.i .i64 0), (.b false), (.b false), (.b false), (.b false), (.b false), (.b false), (.b false), (.i .i64 0), .ns, .ns, .ns, .ns]),
      .st (.t 8) (.t 28) 15,
      .mv 7 (.t 29)])
    (.q (.o [.ld 31 (.t 8) (some 15),
      .cl (some 32) 11 [(.t 31)],
      .mv 30 (.t 32),
      .ex 33 (.t 30) 0,
      .ex 34 (.t 30) 1,
      .lal 9 (.ag [(.b false), (.i .i64 0), (.i .i64 0), (.i .i64 0), .ns]),
      .st (.t 9) (.t 33) 5,
      .mv 10 (.t 34)])
    (.q (.b 0 (.q (.o [.mv 36 (.t 7),
      .bn 37 .neq (.t 36) (.c (.i .i64 0)),
      .mv 38 (.t 37),
      .gd 38 false (.fa 39 (.t 8) 11),
      .gd 38 false (.ld 40 (.t 39) none),
      .gd 38 false (.ln 41 (.t 40)),
      .gd 38 false (.bn 42 .neq (.t 41) (.c (.i .i64 1))),
      .pk 43 (.t 38) (.c (.b true)) (.t 42),
      .mv 44 (.t 43),
      .gd 44 false (.mv 45 (.t 10)),
      .gd 44 false (.bn 46 .neq (.t 45) (.c (.i .i64 0))),
      .pk 47 (.t 44) (.c (.b true)) (.t 46),
      .mv 48 (.t 47),
      .gd 48 false (.mv 49 (.t 0)),
      .gd 48 false (.cl (some 50) 93 [(.t 49), (.c .ns), (.c (.i .i64 0)), (.c (.s []))]),
      .gd 48 false (.fd 51 (.t 50) 0 none),
      .gd 48 false (.bn 52 .eql (.t 51) (.c (.i .i64 32))),
      .pk 53 (.t 48) (.c (.b true)) (.t 52),
      .mv 35 (.t 53)])
    (.i (.t 35) (.q (.p [⟨.ld 54 (.t 5) (some 11), [], false⟩,
      ⟨.bd 55 [(.i .i64 0), (.b false), (.i .i64 0), (.b false), (.b false), (.b false), (.b false), (.b false), (.b false), (.b false), (.i .i64 0), .ns, .ns, .ns, .ns] [(0, 11, (.t 54))], [], false⟩,
      ⟨.bd 56 [(.b false), (.i .i64 0), (.i .i64 0), (.i .i64 0), .ns] [], [], false⟩,
      ⟨.mv 2 (.c (.i .i64 2)), [], false⟩,
      ⟨.st (.t 3) (.t 55) 15, [], false⟩,
      ⟨.st (.t 4) (.t 56) 5, [], false⟩])
    (.r))
    (.q (.o [.fa 58 (.t 5) 2,
      .ld 59 (.t 58) none,
      .bn 60 .neq (.t 59) (.c (.i .i64 0)),
      .mv 61 (.t 60),
      .gd 61 true (.fa 62 (.t 5) 2),
      .gd 61 true (.ld 63 (.t 62) none),
      .gd 61 true (.bn 64 .neq (.t 63) (.c (.i .i64 5))),
      .pk 65 (.t 61) (.t 64) (.c (.b false)),
      .mv 57 (.t 65)])
    (.i (.t 57) (.q (.p [⟨.ld 66 (.t 8) (some 15), [], false⟩,
      ⟨.ld 67 (.t 9) (some 5), [], true⟩,
      ⟨.mv 2 (.c (.i .i64 3)), [], false⟩,
      ⟨.st (.t 3) (.t 66) 15, [1], false⟩,
      ⟨.st (.t 4) (.t 67) 5, [], false⟩])
    (.r))
    (.q (.o [.fa 69 (.t 9) 2,
      .ld 70 (.t 69) none,
      .bn 71 .gtr (.t 70) (.c (.i .i64 0)),
      .mv 68 (.t 71)])
    (.i (.t 68) (.q (.p [⟨.ld 72 (.t 8) (some 15), [], false⟩,
      ⟨.ld 73 (.t 9) (some 5), [], true⟩,
      ⟨.mv 2 (.c (.i .i64 4)), [], false⟩,
      ⟨.st (.t 3) (.t 72) 15, [1], false⟩,
      ⟨.st (.t 4) (.t 73) 5, [], false⟩])
    (.r))
    (.q (.o [.fa 75 (.t 5) 2,
      .ld 76 (.t 75) none,
      .bn 77 .eql (.t 76) (.c (.i .i64 5)),
      .mv 74 (.t 77)])
    (.i (.t 74) (.q (.p [⟨.ld 78 (.t 8) (some 15), [], false⟩,
      ⟨.ld 79 (.t 9) (some 5), [], true⟩,
      ⟨.mv 2 (.c (.i .i64 5)), [], false⟩,
      ⟨.st (.t 3) (.t 78) 15, [1], false⟩,
      ⟨.st (.t 4) (.t 79) 5, [], false⟩])
    (.r))
    (.k))))))))))
    (.q (.p [⟨.ld 80 (.t 8) (some 15), [], false⟩,
      ⟨.ld 81 (.t 9) (some 5), [], true⟩,
      ⟨.mv 2 (.c (.i .i64 6)), [], false⟩,
      ⟨.st (.t 3) (.t 80) 15, [1], false⟩,
      ⟨.st (.t 4) (.t 81) 5, [], false⟩])
    (.r)))))))⟩
abbrev n_impl_triaged : Nat := 58
theorem k_impl_triaged : chkF Go.Proofs.Tryd.prog c_impl_triaged 58 = true := by kernel_rfl
/-- loop.example/s01858/spec.l04Bit -/
def c_spec_l04Bit : Fn := ⟨2, [(.t 4)],
    .q (.o [.mv 4 (.c (.b false))])
    (.q (.o [.mv 5 (.t 0),
      .mv 6 (.t 1),
      .ci 7 .u64 (.t 6),
      .bn 8 .shr (.t 5) (.t 7),
      .bn 9 .and (.t 8) (.c (.i .i64 1)),
      .bn 10 .eql (.t 9) (.c (.i .i64 1)),
      .mv 4 (.t 10)])
    (.r))⟩
abbrev n_spec_l04Bit : Nat := 84
theorem k_spec_l04Bit : chkF Go.Proofs.Tryd.prog c_spec_l04Bit 84 = true := by kernel_rfl
/-- loop.example/s01858/spec.l04Read -/
def c_spec_l04Read : Fn := ⟨1, [(.c 2 (some 15)), (.t 3), (.t 4)],
    .q (.o [.lal 2 (.ag [(.i .i64 0), (.b false), (.i .i64 0), (.b false), (.b false), (.b false), (.b false), (.b false), (.b false), (.b false), (.i .i64 0), .ns, .ns, .ns, .ns]),
      .mv 3 (.c (.i .i64 0)),
      .mv 4 (.c (.i .i64 0))])
    (.q (.q (.o [.mv 21 (.t 0),
      .ln 22 (.t 21),
      .bn 23 .gtr (.t 22) (.c (.i .i64 65535))])
    (.i (.t 23) (.q (.o [.bd 24 [(.i .i64 0), (.b false), (.i .i64 0), (.b false), (.b false), (.b false), (.b false), (.b false), (.b false), (.b false), (.i .i64 0), .ns, .ns, .ns, .ns] [],
      .st (.t 2) (.t 24) 15,
      .mv 3 (.c (.i .i64 0)),
      .mv 4 (.c (.i .i64 11))])
    (.r))
    (.k)))
    (.q (.o [.mv 26 (.t 0),
      .cl (some 27) 54 [(.t 26)],
      .mv 25 (.t 27),
      .ex 28 (.t 25) 0,
      .ex 29 (.t 25) 1,
      .ex 30 (.t 25) 2,
      .lal 5 (.ag [(.i .i64 0), (.b false), (.i .i64 0), (.b false), (.b false), (.b false), (.b false), (.b false), (.b false), (.b false), (.i .i64 0)]),
      .lal 6 (.ag [(.i .i64 0), (.i .i64 0), (.i .i64 0), (.i .i64 0)]),
      .st (.t 5) (.t 28) 11,
      .st (.t 6) (.t 29) 4,
      .mv 7 (.t 30)])
    (.q (.q (.o [.mv 31 (.t 7),
      .bn 32 .neq (.t 31) (.c (.i .i64 0))])
    (.i (.t 32) (.q (.o [.bd 33 [(.i .i64 0), (.b false), (.i .i64 0), (.b false), (.b false), (.b false), (.b false), (.b false), (.b false), (.b false), (.i .i64 0), .ns, .ns, .ns, .ns] [],
      .mv 34 (.t 7),
      .st (.t 2) (.t 33) 15,
      .mv 3 (.c (.i .i64 0)),
      .mv 4 (.t 34)])
    (.r))
    (.k)))
    (.q (.q (.o [.iaa 35 (.t 6) (.c (.i .i64 0)) 4 1,
      .ld 36 (.t 35) none,
      .iaa 37 (.t 6) (.c (.i .i64 1)) 4 1,
      .ld 38 (.t 37) none,
      .bn 39 .add (.t 36) (.t 38),
      .iaa 40 (.t 6) (.c (.i .i64 2)) 4 1,
      .ld 41 (.t 40) none,
      .bn 42 .add (.t 39) (.t 41),
      .iaa 43 (.t 6) (.c (.i .i64 3)) 4 1,
      .ld 44 (.t 43) none,
      .bn 45 .add (.t 42) (.t 44),
      .bn 46 .gtr (.t 45) (.c (.i .i64 400))])
    (.i (.t 46) (.q (.o [.bd 47 [(.i .i64 0), (.b false), (.i .i64 0), (.b false), (.b false), (.b false), (.b false), (.b false), (.b false), (.b false), (.i .i64 0), .ns, .ns, .ns, .ns] [],
      .st (.t 2) (.t 47) 15,
      .mv 3 (.c (.i .i64 0)),
      .mv 4 (.c (.i .i64 12))])
    (.r))
    (.k)))
    (.q (.o [.ld 48 (.t 5) (some 11),
      .bd 49 [(.i .i64 0), (.b false), (.i .i64 0), (.b false), (.b false), (.b false), (.b false), (.b false), (.b false), (.b false), (.i .i64 0), .ns, .ns, .ns, .ns] [(0, 11, (.t 48))],
      .lal 8 (.ag [(.i .i64 0), (.b false), (.i .i64 0), (.b false), (.b false), (.b false), (.b false), (.b false), (.b false), (.b false), (.i .i64 0), .ns, .ns, .ns, .ns]),
      .st (.t 8) (.t 49) 15])
    (.q (.o [.mv 9 (.c (.i .i64 12))])
    (.q (.o [.mv 10 (.c (.i .i64 0))])
    (.q (.q (.o [.mv 11 (.c (.i .i64 0))])
    (.b 0 (.l [0, 2, 6, 8, 9, 10, 11] (.q (.q (.o [.mv 50 (.t 11),
      .iaa 51 (.t 6) (.c (.i .i64 0)) 4 1,
      .ld 52 (.t 51) none,
      .bn 53 .lss (.t 50) (.t 52)])
    (.i (.t 53) (.k)
    (.x 0)))
    (.q (.b 1 (.q (.o [.mv 57 (.t 0),
      .mv 58 (.t 9),
      .cl (some 59) 105 [(.t 57), (.t 58)],
      .mv 56 (.t 59),
      .ex 60 (.t 56) 0,
      .ex 61 (.t 56) 1,
      .ex 62 (.t 56) 2,
      .mv 12 (.t 60),
      .mv 13 (.t 61),
      .mv 14 (.t 62)])
    (.q (.q (.o [.mv 63 (.t 14),
      .bn 64 .neq (.t 63) (.c (.i .i64 0))])
    (.i (.t 64) (.q (.o [.bd 65 [(.i .i64 0), (.b false), (.i .i64 0), (.b false), (.b false), (.b false), (.b false), (.b false), (.b false), (.b false), (.i .i64 0), .ns, .ns, .ns, .ns] [],
      .mv 66 (.t 14),
      .st (.t 2) (.t 65) 15,
      .mv 3 (.c (.i .i64 0)),
      .mv 4 (.t 66)])
    (.r))
    (.k)))
    (.q (.q (.o [.mv 67 (.t 13),
      .bn 68 .add (.t 67) (.c (.i .i64 4)),
      .mv 69 (.t 0),
      .ln 70 (.t 69),
      .bn 71 .gtr (.t 68) (.t 70)])
    (.i (.t 71) (.q (.o [.bd 72 [(.i .i64 0), (.b false), (.i .i64 0), (.b false), (.b false), (.b false), (.b false), (.b false), (.b false), (.b false), (.i .i64 0), .ns, .ns, .ns, .ns] [],
      .st (.t 2) (.t 72) 15,
      .mv 3 (.c (.i .i64 0)),
      .mv 4 (.c (.i .i64 8))])
    (.r))
    (.k)))
    (.q (.o [.mv 73 (.t 0),
      .mv 74 (.t 13),
      .mv 75 (.t 13),
      .bn 76 .add (.t 75) (.c (.i .i64 4)),
      .sl 77 (.t 73) (some (.t 74)) (some (.t 76)) 1,
      .cbs 78 (.t 77),
      .mv 15 (.t 78)])
    (.q (.p [⟨.fa 79 (.t 8) 11, [], false⟩,
      ⟨.ld 80 (.t 79) none, [], true⟩,
      ⟨.mv 81 (.t 12), [], false⟩,
      ⟨.mv 82 (.t 15), [], false⟩,
      ⟨.ss 83 (.t 82) none (some (.c (.i .i64 2))), [], false⟩,
      ⟨.cl (some 84) 83 [(.t 83)], [1], false⟩,
      ⟨.mv 85 (.t 15), [], false⟩,
      ⟨.ss 86 (.t 85) (some (.c (.i .i64 2))) none, [], false⟩,
      ⟨.cl (some 87) 83 [(.t 86)], [1], false⟩,
      ⟨.bd 88 [(.s []), (.i .i64 0), (.i .i64 0)] [(0, 1, (.t 81)), (1, 1, (.t 84)), (2, 1, (.t 87))], [], false⟩,
      ⟨.lbs 89 (.ag [(.s []), (.i .i64 0), (.i .i64 0)]) 3 1 [(0, (.t 88))], [1], false⟩,
      ⟨.ap 90 (.t 80) (.t 89) 3 32, [], false⟩,
      ⟨.fa 91 (.t 8) 11, [], false⟩,
      ⟨.st (.t 91) (.t 90) 1, [], false⟩])
    (.o [.mv 92 (.t 13),
      .bn 93 .add (.t 92) (.c (.i .i64 4)),
      .mv 9 (.t 93)])))))))
    (.o [.mv 54 (.t 11),
      .bn 55 .add (.t 54) (.c (.i .i64 1)),
      .mv 11 (.t 55)]))))))
    (.q (.q (.o [.mv 16 (.c (.i .i64 1))])
    (.b 2 (.l [0, 2, 6, 8, 9, 10, 16] (.q (.q (.o [.mv 94 (.t 16),
      .bn 95 .lss (.t 94) (.c (.i .i64 4))])
    (.i (.t 95) (.k)
    (.x 2)))
    (.q (.b 3 (.q (.o [.mv 17 (.c (.i .i64 0))])
    (.b 4 (.l [0, 2, 6, 8, 9, 10, 16, 17] (.q (.q (.o [.mv 98 (.t 17),
      .mv 99 (.t 16),
      .iaa 100 (.t 6) (.t 99) 4 1,
      .ld 101 (.t 100) none,
      .bn 102 .lss (.t 98) (.t 101)])
    (.i (.t 102) (.k)
    (.x 4)))
    (.q (.b 5 (.q (.o [.mv 106 (.t 0),
      .mv 107 (.t 9),
      .cl (some 108) 106 [(.t 106), (.t 107)],
      .mv 105 (.t 108),
      .ex 109 (.t 105) 0,
      .ex 110 (.t 105) 1,
      .ex 111 (.t 105) 2,
      .lal 18 (.ag [(.s []), (.i .i64 0), (.i .i64 0), (.i .i64 0), (.s [])]),
      .st (.t 18) (.t 109) 5,
      .mv 19 (.t 110),
      .mv 20 (.t 111)])
    (.q (.q (.o [.mv 112 (.t 20),
      .bn 113 .neq (.t 112) (.c (.i .i64 0))])
    (.i (.t 113) (.q (.o [.bd 114 [(.i .i64 0), (.b false), (.i .i64 0), (.b false), (.b false), (.b false), (.b false), (.b false), (.b false), (.b false), (.i .i64 0), .ns, .ns, .ns, .ns] [],
      .mv 115 (.t 20),
      .st (.t 2) (.t 114) 15,
      .mv 3 (.c (.i .i64 0)),
      .mv 4 (.t 115)])
    (.r))
    (.k)))
    (.q (.o [.mv 116 (.t 9),
      .mv 10 (.t 116)])
    (.q (.o [.mv 117 (.t 19),
      .mv 9 (.t 117)])
    (.q (.o [.mv 118 (.t 16)])
    (.b 6 (.q (.o [.bn 120 .eql (.t 118) (.c (.i .i64 1)),
      .mv 119 (.t 120)])
    (.i (.t 119) (.o [.fa 121 (.t 8) 12,
      .ld 122 (.t 121) none,
      .ld 123 (.t 18) (some 5),
      .lbs 124 (.ag [(.s []), (.i .i64 0), (.i .i64 0), (.i .i64 0), (.s [])]) 5 1 [(0, (.t 123))],
      .ap 125 (.t 122) (.t 124) 5 56,
      .fa 126 (.t 8) 12,
      .st (.t 126) (.t 125) 1])
    (.q (.o [.bn 128 .eql (.t 118) (.c (.i .i64 2)),
      .mv 127 (.t 128)])
    (.i (.t 127) (.o [.fa 129 (.t 8) 13,
      .ld 130 (.t 129) none,
      .ld 131 (.t 18) (some 5),
      .lbs 132 (.ag [(.s []), (.i .i64 0), (.i .i64 0), (.i .i64 0), (.s [])]) 5 1 [(0, (.t 131))],
      .ap 133 (.t 130) (.t 132) 5 56,
      .fa 134 (.t 8) 13,
      .st (.t 134) (.t 133) 1])
    (.q (.o [.bn 136 .eql (.t 118) (.c (.i .i64 3)),
      .mv 135 (.t 136)])
    (.i (.t 135) (.o [.fa 137 (.t 8) 14,
      .ld 138 (.t 137) none,
      .ld 139 (.t 18) (some 5),
      .lbs 140 (.ag [(.s []), (.i .i64 0), (.i .i64 0), (.i .i64 0), (.s [])]) 5 1 [(0, (.t 139))],
      .ap 141 (.t 138) (.t 140) 5 56,
      .fa 142 (.t 8) 14,
      .st (.t 142) (.t 141) 1])
    (.k))))))))))))))
    (.o [.mv 103 (.t 17),
      .bn 104 .add (.t 103) (.c (.i .i64 1)),
      .mv 17 (.t 104)])))))))
    (.o [.mv 96 (.t 16),
      .bn 97 .add (.t 96) (.c (.i .i64 1)),
      .mv 16 (.t 97)]))))))
    (.q (.q (.o [.mv 143 (.t 9),
      .mv 144 (.t 0),
      .ln 145 (.t 144),
      .bn 146 .neq (.t 143) (.t 145)])
    (.i (.t 146) (.q (.o [.bd 147 [(.i .i64 0), (.b false), (.i .i64 0), (.b false), (.b false), (.b false), (.b false), (.b false), (.b false), (.b false), (.i .i64 0), .ns, .ns, .ns, .ns] [],
      .st (.t 2) (.t 147) 15,
      .mv 3 (.c (.i .i64 0)),
      .mv 4 (.c (.i .i64 10))])
    (.r))
    (.k)))
    (.q (.o [.ld 148 (.t 8) (some 15),
      .mv 149 (.t 10),
      .st (.t 2) (.t 148) 15,
      .mv 3 (.t 149),
      .mv 4 (.c (.i .i64 0))])
    (.r))))))))))))⟩
abbrev n_spec_l04Read : Nat := 85
theorem k_spec_l04Read : chkF Go.Proofs.Tryd.prog c_spec_l04Read 85 = true := by kernel_rfl
/-- loop.example/s01858/spec.l09Stray -/
def c_spec_l09Stray : Fn := ⟨1, [(.t 2)],
    .q (.o [.lbx 1 (.t 0),
      .mv 2 (.c (.b false))])
    (.q (.q (.o [.mv 3 (.c (.i .i64 0))])
    (.b 0 (.l [1, 3] (.q (.q (.o [.mv 6 (.t 3),
      .fa 7 (.t 1) 12,
      .ld 8 (.t 7) none,
      .ln 9 (.t 8),
      .bn 10 .lss (.t 6) (.t 9)])
    (.i (.t 10) (.k)
    (.x 0)))
    (.q (.b 1 (.q (.o [.fa 13 (.t 1) 12,
      .ld 14 (.t 13) none,
      .mv 15 (.t 3),
      .ia 16 (.t 14) (.t 15) 5,
      .fa 17 (.t 16) 1,
      .ld 18 (.t 17) none,
      .bn 19 .eql (.t 18) (.c (.i .i64 250))])
    (.i (.t 19) (.q (.o [.mv 2 (.c (.b true))])
    (.r))
    (.k))))
    (.o [.mv 11 (.t 3),
      .bn 12 .add (.t 11) (.c (.i .i64 1)),
      .mv 3 (.t 12)]))))))
    (.q (.q (.o [.mv 4 (.c (.i .i64 0))])
    (.b 2 (.l [1, 4] (.q (.q (.o [.mv 20 (.t 4),
      .fa 21 (.t 1) 13,
      .ld 22 (.t 21) none,
      .ln 23 (.t 22),
      .bn 24 .lss (.t 20) (.t 23)])
    (.i (.t 24) (.k)
    (.x 2)))
    (.q (.b 3 (.q (.o [.fa 27 (.t 1) 13,
      .ld 28 (.t 27) none,
      .mv 29 (.t 4),
      .ia 30 (.t 28) (.t 29) 5,
      .fa 31 (.t 30) 1,
      .ld 32 (.t 31) none,
      .bn 33 .eql (.t 32) (.c (.i .i64 250))])
    (.i (.t 33) (.q (.o [.mv 2 (.c (.b true))])
    (.r))
    (.k))))
    (.o [.mv 25 (.t 4),
      .bn 26 .add (.t 25) (.c (.i .i64 1)),
      .mv 4 (.t 26)]))))))
    (.q (.q (.o [.mv 5 (.c (.i .i64 0))])
    (.b 4 (.l [1, 5] (.q (.q (.o [.mv 34 (.t 5),
      .fa 35 (.t 1) 14,
      .ld 36 (.t 35) none,
      .ln 37 (.t 36),
      .bn 38 .sub (.t 37) (.c (.i .i64 1)),
      .bn 39 .lss (.t 34) (.t 38)])
    (.i (.t 39) (.k)
    (.x 4)))
    (.q (.b 5 (.q (.o [.fa 42 (.t 1) 14,
      .ld 43 (.t 42) none,
      .mv 44 (.t 5),
      .ia 45 (.t 43) (.t 44) 5,
      .fa 46 (.t 45) 1,
      .ld 47 (.t 46) none,
      .bn 48 .eql (.t 47) (.c (.i .i64 250))])
    (.i (.t 48) (.q (.o [.mv 2 (.c (.b true))])
    (.r))
    (.k))))
    (.o [.mv 40 (.t 5),
      .bn 41 .add (.t 40) (.c (.i .i64 1)),
      .mv 5 (.t 41)]))))))
    (.q (.o [.mv 2 (.c (.b false))])
    (.r)))))⟩
abbrev n_spec_l09Stray : Nat := 88
theorem k_spec_l09Stray : chkF Go.Proofs.Tryd.prog c_spec_l09Stray 88 = true := by kernel_rfl
/-- loop.example/s01858/spec.l09Data -/
def c_spec_l09Data : Fn := ⟨1, [(.t 2), (.t 3)],
    .q (.o [.lbx 1 (.t 0),
      .mv 2 (.c .ns),
      .mv 3 (.c (.b false))])
    (.q (.o [.fa 6 (.t 1) 4,
      .ld 7 (.t 6) none,
      .cl (some 8) 107 [(.t 7)],
      .mv 4 (.t 8)])
    (.q (.o [.fa 9 (.t 1) 4,
      .ld 10 (.t 9) none,
      .mv 11 (.t 4),
      .lns 12 (.t 11),
      .ss 13 (.t 10) (some (.t 12)) none,
      .mv 5 (.t 13)])
    (.q (.q (.o [.fa 14 (.t 1) 2,
      .ld 15 (.t 14) none,
      .bn 16 .neq (.t 15) (.c (.i .i64 255)),
      .mv 17 (.t 16),
      .gd 17 false (.fa 18 (.t 1) 3),
      .gd 17 false (.ld 19 (.t 18) none),
      .gd 17 false (.bn 20 .neq (.t 19) (.c (.i .i64 0))),
      .pk 21 (.t 17) (.c (.b true)) (.t 20),
      .mv 22 (.t 21),
      .gd 22 false (.mv 23 (.t 4)),
      .gd 22 false (.cl (some 24) 108 []),
      .gd 22 false (.cl (some 25) 91 [(.t 23), (.t 24)]),
      .gd 22 false (.un 26 .not (.t 25)),
      .pk 27 (.t 22) (.c (.b true)) (.t 26),
      .mv 28 (.t 27),
      .gd 28 false (.mv 29 (.t 5)),
      .gd 28 false (.lns 30 (.t 29)),
      .gd 28 false (.bn 31 .neq (.t 30) (.c (.i .i64 48))),
      .pk 32 (.t 28) (.c (.b true)) (.t 31),
      .mv 33 (.t 32),
      .gd 33 false (.mv 34 (.t 5)),
      .gd 33 false (.ss 35 (.t 34) (some (.c (.i .i64 8))) (some (.c (.i .i64 10)))),
      .gd 33 false (.bn 36 .neq (.t 35) (.c (.s [0, 32]))),
      .pk 37 (.t 33) (.c (.b true)) (.t 36),
      .mv 38 (.t 37),
      .gd 38 false (.mv 39 (.t 5)),
      .gd 38 false (.ss 40 (.t 39) (some (.c (.i .i64 44))) none),
      .gd 38 false (.bn 41 .neq (.t 40) (.c (.s [0, 0, 0, 0]))),
      .pk 42 (.t 38) (.c (.b true)) (.t 41)])
    (.i (.t 42) (.q (.o [.mv 2 (.c .ns),
      .mv 3 (.c (.b false))])
    (.r))
    (.k)))
    (.q (.p [⟨.mv 43 (.t 5), [], false⟩,
      ⟨.ss 44 (.t 43) none (some (.c (.i .i64 6))), [], false⟩,
      ⟨.mv 45 (.t 5), [], false⟩,
      ⟨.ss 46 (.t 45) (some (.c (.i .i64 6))) (some (.c (.i .i64 8))), [], false⟩,
      ⟨.mv 47 (.t 5), [], false⟩,
      ⟨.ss 48 (.t 47) (some (.c (.i .i64 10))) (some (.c (.i .i64 42))), [], false⟩,
      ⟨.mv 49 (.t 5), [], false⟩,
      ⟨.ss 50 (.t 49) (some (.c (.i .i64 42))) (some (.c (.i .i64 44))), [], false⟩,
      ⟨.bs 51 (.s []) 1 4 [(0, (.t 44)), (1, (.t 46)), (2, (.t 48)), (3, (.t 50))], [], false⟩,
      ⟨.mv 2 (.t 51), [], false⟩,
      ⟨.mv 3 (.c (.b true)), [], false⟩])
    (.r)))))⟩
abbrev n_spec_l09Data : Nat := 90
theorem k_spec_l09Data : chkF Go.Proofs.Tryd.prog c_spec_l09Data 90 = true := by kernel_rfl
/-- loop.example/s01858/spec.SameName -/
def c_spec_SameName : Fn := ⟨2, [(.t 4)],
    .q (.o [.mv 4 (.c (.b false))])
    (.q (.o [.mv 6 (.t 0),
      .cl (some 7) 109 [(.t 6)],
      .mv 5 (.t 7)])
    (.q (.o [.mv 8 (.t 5),
      .bn 9 .neq (.t 8) (.c (.s [])),
      .mv 10 (.t 9),
      .gd 10 true (.mv 11 (.t 5)),
      .gd 10 true (.mv 12 (.t 1)),
      .gd 10 true (.cl (some 13) 109 [(.t 12)]),
      .gd 10 true (.bn 14 .eql (.t 11) (.t 13)),
      .pk 15 (.t 10) (.t 14) (.c (.b false)),
      .mv 4 (.t 15)])
    (.r)))⟩
abbrev n_spec_SameName : Nat := 91
theorem k_spec_SameName : chkF Go.Proofs.Tryd.prog c_spec_SameName 91 = true := by kernel_rfl
/-- loop.example/s01858/impl.Verify -/
def c_impl_Verify : Fn := ⟨4, [(.c 8 (some 5))],
    .q (.o [.lal 8 (.ag [(.i .i64 0), (.b false), (.i .i64 0), (.s []), .ns])])
    (.q (.o [.bd 30 [(.i .i64 0), (.b false), (.i .i64 0), (.s []), .ns] [(0, 1, (.c (.i .i64 32)))],
      .lal 9 (.ag [(.i .i64 0), (.b false), (.i .i64 0), (.s []), .ns]),
      .st (.t 9) (.t 30) 5])
    (.q (.o [.mv 32 (.t 0),
      .cl (some 33) 10 [(.t 32)],
      .mv 31 (.t 33),
      .ex 34 (.t 31) 0,
      .ex 35 (.t 31) 1,
      .lal 10 (.ag [(.i .i64 0), (.b false), (.i .i64 0), (.b false), (.b false), (.b false), (.b false), (.b false), (.b false), (.b false), (.i .i64 0), .ns, .ns, .ns, .ns]),
      .st (.t 10) (.t 34) 15,
      .mv 11 (.t 35)])
    (.q (.q (.o [.mv 36 (.t 11),
      .bn 37 .neq (.t 36) (.c (.i .i64 0)),
      .mv 38 (.t 37),
      .gd 38 false (.mv 39 (.t 1)),
      .gd 38 false (.ln 40 (.t 39)),
      .gd 38 false (.bn 41 .gtr (.t 40) (.c (.i .i64 8))),
      .pk 42 (.t 38) (.c (.b true)) (.t 41),
      .mv 43 (.t 42),
      .gd 43 false (.mv 44 (.t 2)),
      .gd 43 false (.cl (some 45) 28 [(.t 44), (.c (.i .i64 0)), (.c (.i .i64 281474976710655))]),
      .gd 43 false (.un 46 .not (.t 45)),
      .pk 47 (.t 43) (.c (.b true)) (.t 46),
      .mv 48 (.t 47),
      .gd 48 false (.mv 49 (.t 3)),
      .gd 48 false (.lns 50 (.t 49)),
      .gd 48 false (.bn 51 .gtr (.t 50) (.c (.i .i64 32))),
      .pk 52 (.t 48) (.c (.b true)) (.t 51)])
    (.i (.t 52) (.q (.o [.ld 53 (.t 9) (some 5),
      .st (.t 8) (.t 53) 5])
    (.r))
    (.k)))
    (.q (.q (.o [.mv 54 (.t 1),
      .ln 55 (.t 54),
      .mv 56 (.c (.i .i64 0))])
    (.b 0 (.l [0, 1, 2, 3, 8, 9, 10, 54, 55, 56] (.q (.o [.bn 57 .lss (.t 56) (.t 55)])
    (.q (.i (.t 57) (.k)
    (.x 0))
    (.q (.b 1 (.q (.o [.ia 58 (.t 54) (.t 56) 2,
      .ld 59 (.t 58) (some 2),
      .lal 13 (.ag [(.s []), (.s [])]),
      .st (.t 13) (.t 59) 2])
    (.q (.o [.ld 60 (.t 13) (some 2),
      .cl (some 61) 112 [(.t 60)],
      .un 62 .not (.t 61)])
    (.i (.t 62) (.q (.o [.ld 63 (.t 9) (some 5),
      .st (.t 8) (.t 63) 5])
    (.r))
    (.k)))))
    (.o [.bn 64 .add (.t 56) (.c (.i .i64 1)),
      .mv 56 (.t 64)])))))))
    (.q (.p [⟨.bs 65 (.ag [(.s []), (.i .i64 0), (.i .i64 0), (.i .i64 0), (.s [])]) 5 0 [], [], true⟩,
      ⟨.fa 66 (.t 10) 12, [], false⟩,
      ⟨.ld 67 (.t 66) none, [0], false⟩,
      ⟨.ap 68 (.t 65) (.t 67) 5 56, [], true⟩,
      ⟨.fa 69 (.t 10) 13, [], false⟩,
      ⟨.ld 70 (.t 69) none, [0, 3], false⟩,
      ⟨.ap 71 (.t 68) (.t 70) 5 56, [], true⟩,
      ⟨.fa 72 (.t 10) 14, [], false⟩,
      ⟨.ld 73 (.t 72) none, [0, 3, 6], false⟩,
      ⟨.ap 74 (.t 71) (.t 73) 5 56, [], false⟩,
      ⟨.mv 14 (.t 74), [], false⟩])
    (.q (.q (.o [.mv 75 (.t 14),
      .ln 76 (.t 75),
      .mv 77 (.c (.i .i64 0))])
    (.b 2 (.l [0, 1, 2, 3, 8, 9, 10, 14, 75, 76, 77] (.q (.o [.bn 78 .lss (.t 77) (.t 76)])
    (.q (.i (.t 78) (.k)
    (.x 2))
    (.q (.b 3 (.q (.o [.mv 79 (.t 77),
      .ia 80 (.t 75) (.t 77) 5,
      .ld 81 (.t 80) (some 5),
      .lal 16 (.ag [(.s []), (.i .i64 0), (.i .i64 0), (.i .i64 0), (.s [])]),
      .mv 15 (.t 79),
      .st (.t 16) (.t 81) 5])
    (.q (.o [.fa 82 (.t 16) 1,
      .ld 83 (.t 82) none,
      .bn 84 .eql (.t 83) (.c (.i .i64 250)),
      .mv 85 (.t 84),
      .gd 85 true (.mv 86 (.t 15)),
      .gd 85 true (.mv 87 (.t 14)),
      .gd 85 true (.ln 88 (.t 87)),
      .gd 85 true (.bn 89 .sub (.t 88) (.c (.i .i64 1))),
      .gd 85 true (.bn 90 .lss (.t 86) (.t 89)),
      .gd 85 true (.mv 91 (.t 90)),
      .gd 91 false (.fa 92 (.t 10) 14),
      .gd 91 false (.ld 93 (.t 92) none),
      .gd 91 false (.ln 94 (.t 93)),
      .gd 91 false (.bn 95 .eql (.t 94) (.c (.i .i64 0))),
      .gd 85 true (.pk 96 (.t 91) (.c (.b true)) (.t 95)),
      .pk 97 (.t 85) (.t 96) (.c (.b false))])
    (.i (.t 97) (.q (.o [.ld 98 (.t 9) (some 5),
      .st (.t 8) (.t 98) 5])
    (.r))
    (.k)))))
    (.o [.bn 99 .add (.t 77) (.c (.i .i64 1)),
      .mv 77 (.t 99)])))))))
    (.q (.q (.o [.fa 100 (.t 10) 14,
      .ld 101 (.t 100) none,
      .ln 102 (.t 101),
      .bn 103 .eql (.t 102) (.c (.i .i64 0)),
      .mv 104 (.t 103),
      .gd 104 false (.fa 105 (.t 10) 14),
      .gd 104 false (.ld 106 (.t 105) none),
      .gd 104 false (.fa 107 (.t 10) 14),
      .gd 104 false (.ld 108 (.t 107) none),
      .gd 104 false (.ln 109 (.t 108)),
      .gd 104 false (.bn 110 .sub (.t 109) (.c (.i .i64 1))),
      .gd 104 false (.ia 111 (.t 106) (.t 110) 5),
      .gd 104 false (.fa 112 (.t 111) 1),
      .gd 104 false (.ld 113 (.t 112) none),
      .gd 104 false (.bn 114 .neq (.t 113) (.c (.i .i64 250))),
      .pk 115 (.t 104) (.c (.b true)) (.t 114)])
    (.i (.t 115) (.q (.o [.bs 116 (.i .u8 0) 1 0 [],
      .mv 117 (.t 0),
      .ap 118 (.t 116) (.t 117) 1 1,
      .bd 119 [(.i .i64 0), (.b false), (.i .i64 0), (.s []), .ns] [(0, 1, (.c (.i .i64 0))), (2, 1, (.c (.i .i64 (-1)))), (4, 1, (.t 118))],
      .st (.t 8) (.t 119) 5])
    (.r))
    (.k)))
    (.q (.o [.fa 120 (.t 10) 14,
      .ld 121 (.t 120) none,
      .fa 122 (.t 10) 14,
      .ld 123 (.t 122) none,
      .ln 124 (.t 123),
      .bn 125 .sub (.t 124) (.c (.i .i64 1)),
      .ia 126 (.t 121) (.t 125) 5,
      .ld 127 (.t 126) (some 5),
      .lal 17 (.ag [(.s []), (.i .i64 0), (.i .i64 0), (.i .i64 0), (.s [])]),
      .st (.t 17) (.t 127) 5])
    (.q (.o [.fa 128 (.t 17) 4,
      .ld 129 (.t 128) none,
      .mv 18 (.t 129)])
    (.q (.q (.o [.fa 130 (.t 17) 2,
      .ld 131 (.t 130) none,
      .bn 132 .neq (.t 131) (.c (.i .i64 255)),
      .mv 133 (.t 132),
      .gd 133 false (.fa 134 (.t 17) 3),
      .gd 133 false (.ld 135 (.t 134) none),
      .gd 133 false (.bn 136 .neq (.t 135) (.c (.i .i64 0))),
      .pk 137 (.t 133) (.c (.b true)) (.t 136),
      .mv 138 (.t 137),
      .gd 138 false (.mv 139 (.t 18)),
      .gd 138 false (.lns 140 (.t 139)),
      .gd 138 false (.bn 141 .neq (.t 140) (.c (.i .i64 61))),
      .pk 142 (.t 138) (.c (.b true)) (.t 141),
      .mv 143 (.t 142),
      .gd 143 false (.mv 144 (.t 18)),
      .gd 143 false (.ss 145 (.t 144) none (some (.c (.i .i64 13)))),
      .gd 143 false (.cl (some 146) 113 [(.t 145)]),
      .gd 143 false (.bn 147 .neq (.t 146) (.c (.s [11, 104, 109, 97, 99, 45, 115, 104, 97, 50, 53, 54, 0]))),
      .pk 148 (.t 143) (.c (.b true)) (.t 147)])
    (.i (.t 148) (.q (.o [.ld 149 (.t 9) (some 5),
      .st (.t 8) (.t 149) 5])
    (.r))
    (.k)))
    (.q (.o [.mv 150 (.t 18),
      .ss 151 (.t 150) (some (.c (.i .i64 13))) none,
      .mv 18 (.t 151)])
    (.q (.p [⟨.mv 152 (.t 18), [], false⟩,
      ⟨.ss 153 (.t 152) none (some (.c (.i .i64 6))), [], false⟩,
      ⟨.mv 154 (.t 18), [], false⟩,
      ⟨.ss 155 (.t 154) (some (.c (.i .i64 6))) (some (.c (.i .i64 8))), [], false⟩,
      ⟨.mv 156 (.t 18), [], false⟩,
      ⟨.ss 157 (.t 156) (some (.c (.i .i64 10))) (some (.c (.i .i64 42))), [], false⟩,
      ⟨.mv 158 (.t 18), [], false⟩,
      ⟨.ss 159 (.t 158) (some (.c (.i .i64 42))) (some (.c (.i .i64 44))), [], false⟩,
      ⟨.mv 19 (.t 153), [], false⟩,
      ⟨.mv 20 (.t 155), [], false⟩,
      ⟨.mv 21 (.t 157), [], false⟩,
      ⟨.mv 22 (.t 159), [], false⟩])
    (.q (.q (.p [⟨.mv 160 (.t 18), [], false⟩,
      ⟨.ss 161 (.t 160) (some (.c (.i .i64 8))) (some (.c (.i .i64 10))), [], false⟩,
      ⟨.bn 162 .neq (.t 161) (.c (.s [0, 32])), [], false⟩,
      ⟨.mv 163 (.t 162), [], false⟩,
      ⟨.gd 163 false (.mv 164 (.t 18)), [], false⟩,
      ⟨.gd 163 false (.ss 165 (.t 164) (some (.c (.i .i64 44))) none), [], false⟩,
      ⟨.gd 163 false (.cl (some 166) 114 [(.c (.s [0])), (.c (.i .i64 4))]), [], false⟩,
      ⟨.gd 163 false (.bn 167 .neq (.t 165) (.t 166)), [], false⟩,
      ⟨.pk 168 (.t 163) (.c (.b true)) (.t 167), [], false⟩])
    (.i (.t 168) (.q (.o [.ld 169 (.t 9) (some 5),
      .st (.t 8) (.t 169) 5])
    (.r))
    (.k)))
    (.q (.o [.mv 170 (.t 0),
      .cl (some 171) 115 [(.t 170)],
      .mv 23 (.t 171)])
    (.q (.p [⟨.mv 172 (.t 22), [], false⟩,
      ⟨.mv 173 (.t 0), [], false⟩,
      ⟨.sl 174 (.t 173) (some (.c (.i .i64 2))) (some (.c (.i .i64 10))) 1, [], true⟩,
      ⟨.cbs 175 (.t 174), [], true⟩,
      ⟨.bn 176 .add (.t 172) (.t 175), [], false⟩,
      ⟨.mv 177 (.t 0), [], false⟩,
      ⟨.sl 178 (.t 177) (some (.c (.i .i64 10))) (some (.c (.i .i64 12))) 1, [], false⟩,
      ⟨.cbs 179 (.t 178), [], false⟩,
      ⟨.cl (some 180) 34 [(.t 179)], [2, 3], true⟩,
      ⟨.bn 181 .sub (.t 180) (.c (.i .i64 1)), [], false⟩,
      ⟨.cl (some 182) 29 [(.t 181)], [2, 3], true⟩,
      ⟨.bn 183 .add (.t 176) (.t 182), [], false⟩,
      ⟨.mv 184 (.t 0), [], false⟩,
      ⟨.mv 185 (.t 23), [], false⟩,
      ⟨.sl 186 (.t 184) (some (.c (.i .i64 12))) (some (.t 185)) 1, [8, 10], false⟩,
      ⟨.cbs 187 (.t 186), [8, 10], false⟩,
      ⟨.bn 188 .add (.t 183) (.t 187), [], false⟩,
      ⟨.mv 24 (.t 188), [], false⟩])
    (.q (.o [.mv 189 (.t 21),
      .mv 190 (.t 24),
      .csb 191 (.t 190),
      .bd 192 [(.i .i64 0), (.b false), (.i .i64 0), (.s []), .ns] [(1, 1, (.c (.b true))), (2, 1, (.c (.i .i64 (-1)))), (3, 1, (.t 189)), (4, 1, (.t 191))],
      .lal 25 (.ag [(.i .i64 0), (.b false), (.i .i64 0), (.s []), .ns]),
      .st (.t 25) (.t 192) 5])
    (.q (.q (.o [.mv 193 (.t 1),
      .ln 194 (.t 193),
      .mv 195 (.c (.i .i64 0))])
    (.b 4 (.l [1, 2, 3, 8, 17, 19, 20, 21, 24, 25, 193, 194, 195] (.q (.o [.bn 196 .lss (.t 195) (.t 194)])
    (.q (.i (.t 196) (.k)
    (.x 4))
    (.q (.b 5 (.q (.o [.mv 197 (.t 195),
      .ia 198 (.t 193) (.t 195) 2,
      .ld 199 (.t 198) (some 2),
      .lal 27 (.ag [(.s []), (.s [])]),
      .mv 26 (.t 197),
      .st (.t 27) (.t 199) 2])
    (.q (.o [.fa 200 (.t 27) 0,
      .ld 201 (.t 200) none,
      .fa 202 (.t 17) 0,
      .ld 203 (.t 202) none,
      .cl (some 204) 116 [(.t 201), (.t 203)]])
    (.i (.t 204) (.q (.o [.mv 205 (.t 26),
      .fa 206 (.t 25) 2,
      .st (.t 206) (.t 205) 1])
    (.x 4))
    (.k)))))
    (.o [.bn 207 .add (.t 195) (.c (.i .i64 1)),
      .mv 195 (.t 207)])))))))
    (.q (.q (.o [.fa 208 (.t 25) 2,
      .ld 209 (.t 208) none,
      .bn 210 .lss (.t 209) (.c (.i .i64 0))])
    (.i (.t 210) (.q (.o [.fa 211 (.t 25) 0,
      .st (.t 211) (.c (.i .i64 29)) 1])
    (.q (.o [.ld 212 (.t 25) (some 5),
      .st (.t 8) (.t 212) 5])
    (.r)))
    (.k)))
    (.q (.q (.o [.mv 213 (.t 1),
      .fa 214 (.t 25) 2,
      .ld 215 (.t 214) none,
      .ia 216 (.t 213) (.t 215) 2,
      .ld 217 (.t 216) (some 2),
      .mv 218 (.t 24),
      .mv 219 (.t 3),
      .mv 220 (.t 19),
      .mv 221 (.t 20),
      .cl (some 222) 117 [(.t 217), (.t 218), (.t 219), (.t 220), (.t 221)],
      .mv 223 (.t 21),
      .bn 224 .neq (.t 222) (.t 223)])
    (.i (.t 224) (.q (.o [.fa 225 (.t 25) 0,
      .st (.t 225) (.c (.i .i64 30)) 1])
    (.q (.o [.ld 226 (.t 25) (some 5),
      .st (.t 8) (.t 226) 5])
    (.r)))
    (.k)))
    (.q (.p [⟨.mv 227 (.t 19), [], false⟩,
      ⟨.cl (some 228) 34 [(.t 227)], [], false⟩,
      ⟨.bn 229 .shl (.t 228) (.c (.i .u64 32)), [], false⟩,
      ⟨.mv 230 (.t 19), [], false⟩,
      ⟨.ss 231 (.t 230) (some (.c (.i .i64 2))) none, [], false⟩,
      ⟨.cl (some 232) 68 [(.t 231)], [], false⟩,
      ⟨.bn 233 .or (.t 229) (.t 232), [], false⟩,
      ⟨.mv 28 (.t 233), [], false⟩])
    (.q (.q (.o [.mv 234 (.t 20),
      .cl (some 235) 34 [(.t 234)],
      .mv 29 (.t 235)])
    (.q (.o [.mv 236 (.t 2),
      .mv 237 (.t 28),
      .bn 238 .sub (.t 236) (.t 237),
      .mv 239 (.t 29),
      .bn 240 .gtr (.t 238) (.t 239),
      .mv 241 (.t 240),
      .gd 241 false (.mv 242 (.t 28)),
      .gd 241 false (.mv 243 (.t 2)),
      .gd 241 false (.bn 244 .sub (.t 242) (.t 243)),
      .gd 241 false (.mv 245 (.t 29)),
      .gd 241 false (.bn 246 .gtr (.t 244) (.t 245)),
      .pk 247 (.t 241) (.c (.b true)) (.t 246)])
    (.i (.t 247) (.o [.fa 248 (.t 25) 0,
      .st (.t 248) (.c (.i .i64 31)) 1])
    (.k))))
    (.q (.o [.ld 249 (.t 25) (some 5),
      .st (.t 8) (.t 249) 5])
    (.r)))))))))))))))))))))))⟩
abbrev n_impl_Verify : Nat := 93
theorem k_impl_Verify : chkF Go.Proofs.Tryd.prog c_impl_Verify 93 = true := by kernel_rfl
/-- loop.example/s01858/spec.DecodeName -/
def c_spec_DecodeName : Fn := ⟨2, [(.t 4), (.t 5), (.t 6)],
    .q (.o [.mv 4 (.c (.s [])),
      .mv 5 (.c (.i .i64 0)),
      .mv 6 (.c (.i .i64 0))])
    (.q (.o [.mv 14 (.t 0),
      .ln 15 (.t 14),
      .mv 7 (.t 15)])
    (.q (.q (.o [.mv 16 (.t 1),
      .bn 17 .lss (.t 16) (.c (.i .i64 0)),
      .mv 18 (.t 17),
      .gd 18 false (.mv 19 (.t 1)),
      .gd 18 false (.mv 20 (.t 7)),
      .gd 18 false (.bn 21 .gtr (.t 19) (.t 20)),
      .pk 22 (.t 18) (.c (.b true)) (.t 21)])
    (.i (.t 22) (.q (.o [.mv 4 (.c (.s [])),
      .mv 5 (.c (.i .i64 0)),
      .mv 6 (.c (.i .i64 32))])
    (.r))
    (.k)))
    (.q (.o [.bs 23 (.s []) 1 0 [],
      .mv 8 (.t 23)])
    (.q (.o [.mv 9 (.c (.i .i64 1))])
    (.q (.o [.mv 10 (.c (.i .i64 (-1)))])
    (.q (.o [.mv 24 (.t 1),
      .mv 11 (.t 24)])
    (.b 0 (.l [0, 1, 7, 8, 9, 10, 11] (.b 1 (.q (.q (.o [.mv 25 (.t 1),
      .mv 26 (.t 7),
      .bn 27 .geq (.t 25) (.t 26)])
    (.i (.t 27) (.q (.o [.mv 4 (.c (.s [])),
      .mv 5 (.c (.i .i64 0)),
      .mv 6 (.c (.i .i64 8))])
    (.r))
    (.k)))
    (.q (.o [.mv 28 (.t 0),
      .mv 29 (.t 1),
      .ia 30 (.t 28) (.t 29) 1,
      .ld 31 (.t 30) none,
      .ci 32 .i64 (.t 31),
      .mv 12 (.t 32)])
    (.q (.q (.o [.mv 33 (.t 12),
      .bn 34 .eql (.t 33) (.c (.i .i64 0))])
    (.i (.t 34) (.q (.q (.o [.mv 35 (.t 10),
      .bn 36 .lss (.t 35) (.c (.i .i64 0))])
    (.i (.t 36) (.o [.mv 37 (.t 1),
      .bn 38 .add (.t 37) (.c (.i .i64 1)),
      .mv 10 (.t 38)])
    (.k)))
    (.q (.o [.mv 39 (.t 8),
      .cl (some 40) 128 [(.t 39)],
      .mv 41 (.t 10),
      .mv 4 (.t 40),
      .mv 5 (.t 41),
      .mv 6 (.c (.i .i64 0))])
    (.r)))
    (.k)))
    (.q (.q (.o [.mv 42 (.t 12),
      .bn 43 .geq (.t 42) (.c (.i .i64 192))])
    (.i (.t 43) (.q (.q (.o [.mv 44 (.t 1),
      .bn 45 .add (.t 44) (.c (.i .i64 1)),
      .mv 46 (.t 7),
      .bn 47 .geq (.t 45) (.t 46)])
    (.i (.t 47) (.q (.o [.mv 4 (.c (.s [])),
      .mv 5 (.c (.i .i64 0)),
      .mv 6 (.c (.i .i64 8))])
    (.r))
    (.k)))
    (.q (.o [.mv 48 (.t 12),
      .bn 49 .sub (.t 48) (.c (.i .i64 192)),
      .bn 50 .mul (.t 49) (.c (.i .i64 256)),
      .mv 51 (.t 0),
      .mv 52 (.t 1),
      .bn 53 .add (.t 52) (.c (.i .i64 1)),
      .ia 54 (.t 51) (.t 53) 1,
      .ld 55 (.t 54) none,
      .ci 56 .i64 (.t 55),
      .bn 57 .add (.t 50) (.t 56),
      .mv 13 (.t 57)])
    (.q (.q (.o [.mv 58 (.t 13),
      .mv 59 (.t 11),
      .bn 60 .geq (.t 58) (.t 59)])
    (.i (.t 60) (.q (.o [.mv 4 (.c (.s [])),
      .mv 5 (.c (.i .i64 0)),
      .mv 6 (.c (.i .i64 9))])
    (.r))
    (.k)))
    (.q (.q (.o [.mv 61 (.t 10),
      .bn 62 .lss (.t 61) (.c (.i .i64 0))])
    (.i (.t 62) (.o [.mv 63 (.t 1),
      .bn 64 .add (.t 63) (.c (.i .i64 2)),
      .mv 10 (.t 64)])
    (.k)))
    (.q (.o [.mv 65 (.t 13),
      .mv 11 (.t 65)])
    (.q (.o [.mv 66 (.t 13),
      .mv 1 (.t 66)])
    (.x 1)))))))
    (.k)))
    (.q (.q (.o [.mv 67 (.t 12),
      .bn 68 .gtr (.t 67) (.c (.i .i64 63))])
    (.i (.t 68) (.q (.o [.mv 4 (.c (.s [])),
      .mv 5 (.c (.i .i64 0)),
      .mv 6 (.c (.i .i64 2))])
    (.r))
    (.k)))
    (.q (.q (.o [.mv 69 (.t 1),
      .bn 70 .add (.t 69) (.c (.i .i64 1)),
      .mv 71 (.t 12),
      .bn 72 .add (.t 70) (.t 71),
      .mv 73 (.t 7),
      .bn 74 .gtr (.t 72) (.t 73)])
    (.i (.t 74) (.q (.o [.mv 4 (.c (.s [])),
      .mv 5 (.c (.i .i64 0)),
      .mv 6 (.c (.i .i64 8))])
    (.r))
    (.k)))
    (.q (.o [.mv 75 (.t 9),
      .bn 76 .add (.t 75) (.c (.i .i64 1)),
      .mv 77 (.t 12),
      .bn 78 .add (.t 76) (.t 77),
      .mv 9 (.t 78)])
    (.q (.q (.o [.mv 79 (.t 9),
      .bn 80 .gtr (.t 79) (.c (.i .i64 255))])
    (.i (.t 80) (.q (.o [.mv 4 (.c (.s [])),
      .mv 5 (.c (.i .i64 0)),
      .mv 6 (.c (.i .i64 3))])
    (.r))
    (.k)))
    (.q (.o [.mv 81 (.t 8),
      .mv 82 (.t 0),
      .mv 83 (.t 1),
      .bn 84 .add (.t 83) (.c (.i .i64 1)),
      .mv 85 (.t 1),
      .bn 86 .add (.t 85) (.c (.i .i64 1)),
      .mv 87 (.t 12),
      .bn 88 .add (.t 86) (.t 87),
      .sl 89 (.t 82) (some (.t 84)) (some (.t 88)) 1,
      .cbs 90 (.t 89),
      .lbs 91 (.s []) 1 1 [(0, (.t 90))],
      .ap 92 (.t 81) (.t 91) 1 16,
      .mv 8 (.t 92)])
    (.o [.mv 93 (.t 1),
      .bn 94 .add (.t 93) (.c (.i .i64 1)),
      .mv 95 (.t 12),
      .bn 96 .add (.t 94) (.t 95),
      .mv 1 (.t 96)])))))))))))))))))))⟩
abbrev n_spec_DecodeName : Nat := 105
theorem k_spec_DecodeName : chkF Go.Proofs.Tryd.prog c_spec_DecodeName 105 = true := by kernel_rfl
/-- loop.example/s01858/spec.l04Record -/
def c_spec_l04Record : Fn := ⟨2, [(.c 4 (some 5)), (.t 5), (.t 6)],
    .q (.o [.lal 4 (.ag [(.s []), (.i .i64 0), (.i .i64 0), (.i .i64 0), (.s [])]),
      .mv 5 (.c (.i .i64 0)),
      .mv 6 (.c (.i .i64 0))])
    (.q (.o [.mv 14 (.t 0),
      .mv 15 (.t 1),
      .cl (some 16) 105 [(.t 14), (.t 15)],
      .mv 13 (.t 16),
      .ex 17 (.t 13) 0,
      .ex 18 (.t 13) 1,
      .ex 19 (.t 13) 2,
      .mv 7 (.t 17),
      .mv 8 (.t 18),
      .mv 9 (.t 19)])
    (.q (.q (.o [.mv 20 (.t 9),
      .bn 21 .neq (.t 20) (.c (.i .i64 0))])
    (.i (.t 21) (.q (.o [.bd 22 [(.s []), (.i .i64 0), (.i .i64 0), (.i .i64 0), (.s [])] [],
      .mv 23 (.t 9),
      .st (.t 4) (.t 22) 5,
      .mv 5 (.c (.i .i64 0)),
      .mv 6 (.t 23)])
    (.r))
    (.k)))
    (.q (.q (.o [.mv 24 (.t 8),
      .bn 25 .add (.t 24) (.c (.i .i64 10)),
      .mv 26 (.t 0),
      .ln 27 (.t 26),
      .bn 28 .gtr (.t 25) (.t 27)])
    (.i (.t 28) (.q (.o [.bd 29 [(.s []), (.i .i64 0), (.i .i64 0), (.i .i64 0), (.s [])] [],
      .st (.t 4) (.t 29) 5,
      .mv 5 (.c (.i .i64 0)),
      .mv 6 (.c (.i .i64 8))])
    (.r))
    (.k)))
    (.q (.o [.mv 30 (.t 0),
      .mv 31 (.t 8),
      .mv 32 (.t 8),
      .bn 33 .add (.t 32) (.c (.i .i64 10)),
      .sl 34 (.t 30) (some (.t 31)) (some (.t 33)) 1,
      .cbs 35 (.t 34),
      .mv 10 (.t 35)])
    (.q (.o [.mv 36 (.t 8),
      .bn 37 .add (.t 36) (.c (.i .i64 10)),
      .mv 38 (.t 10),
      .ss 39 (.t 38) (some (.c (.i .i64 8))) none,
      .cl (some 40) 83 [(.t 39)],
      .bn 41 .add (.t 37) (.t 40),
      .mv 11 (.t 41)])
    (.q (.q (.o [.mv 42 (.t 11),
      .mv 43 (.t 0),
      .ln 44 (.t 43),
      .bn 45 .gtr (.t 42) (.t 44)])
    (.i (.t 45) (.q (.o [.bd 46 [(.s []), (.i .i64 0), (.i .i64 0), (.i .i64 0), (.s [])] [],
      .st (.t 4) (.t 46) 5,
      .mv 5 (.c (.i .i64 0)),
      .mv 6 (.c (.i .i64 8))])
    (.r))
    (.k)))
    (.q (.o [.mv 48 (.t 0),
      .mv 49 (.t 10),
      .ss 50 (.t 49) none (some (.c (.i .i64 2))),
      .cl (some 51) 83 [(.t 50)],
      .mv 52 (.t 8),
      .bn 53 .add (.t 52) (.c (.i .i64 10)),
      .mv 54 (.t 11),
      .cl (some 55) 129 [(.t 48), (.t 51), (.t 53), (.t 54)],
      .mv 47 (.t 55),
      .ex 56 (.t 47) 0,
      .ex 57 (.t 47) 1,
      .mv 12 (.t 56),
      .mv 9 (.t 57)])
    (.q (.q (.o [.mv 58 (.t 9),
      .bn 59 .neq (.t 58) (.c (.i .i64 0))])
    (.i (.t 59) (.q (.o [.bd 60 [(.s []), (.i .i64 0), (.i .i64 0), (.i .i64 0), (.s [])] [],
      .mv 61 (.t 9),
      .st (.t 4) (.t 60) 5,
      .mv 5 (.c (.i .i64 0)),
      .mv 6 (.t 61)])
    (.r))
    (.k)))
    (.q (.p [⟨.mv 62 (.t 7), [], false⟩,
      ⟨.mv 63 (.t 10), [], false⟩,
      ⟨.ss 64 (.t 63) none (some (.c (.i .i64 2))), [], false⟩,
      ⟨.cl (some 65) 83 [(.t 64)], [], false⟩,
      ⟨.mv 66 (.t 10), [], false⟩,
      ⟨.ss 67 (.t 66) (some (.c (.i .i64 2))) (some (.c (.i .i64 4))), [], false⟩,
      ⟨.cl (some 68) 83 [(.t 67)], [], false⟩,
      ⟨.mv 69 (.t 10), [], false⟩,
      ⟨.ss 70 (.t 69) (some (.c (.i .i64 4))) (some (.c (.i .i64 8))), [], false⟩,
      ⟨.cl (some 71) 83 [(.t 70)], [], false⟩,
      ⟨.mv 72 (.t 12), [], false⟩,
      ⟨.bd 73 [(.s []), (.i .i64 0), (.i .i64 0), (.i .i64 0), (.s [])] [(0, 1, (.t 62)), (1, 1, (.t 65)), (2, 1, (.t 68)), (3, 1, (.t 71)), (4, 1, (.t 72))], [], false⟩,
      ⟨.mv 74 (.t 11), [], false⟩,
      ⟨.st (.t 4) (.t 73) 5, [], false⟩,
      ⟨.mv 5 (.t 74), [], false⟩,
      ⟨.mv 6 (.c (.i .i64 0)), [], false⟩])
    (.r))))))))))⟩
abbrev n_spec_l04Record : Nat := 106
theorem k_spec_l04Record : chkF Go.Proofs.Tryd.prog c_spec_l04Record 106 = true := by kernel_rfl
/-- loop.example/s01858/spec.l09Algorithm -/
def c_spec_l09Algorithm : Fn := ⟨0, [(.t 0)],
    .q (.o [.mv 0 (.c (.s []))])
    (.q (.o [.bs 1 (.s []) 1 1 [(0, (.c (.s [104, 109, 97, 99, 45, 115, 104, 97, 50, 53, 54])))],
      .cl (some 2) 128 [(.t 1)],
      .mv 0 (.t 2)])
    (.r))⟩
abbrev n_spec_l09Algorithm : Nat := 108
theorem k_spec_l09Algorithm : chkF Go.Proofs.Tryd.prog c_spec_l09Algorithm 108 = true := by kernel_rfl
/-- loop.example/s01858/spec.FoldName -/
def c_spec_FoldName : Fn := ⟨1, [(.t 2)],
    .q (.o [.mv 2 (.c (.s []))])
    (.q (.o [.mv 7 (.t 0),
      .cl (some 8) 99 [(.t 7)],
      .mv 6 (.t 8),
      .ex 9 (.t 6) 0,
      .ex 10 (.t 6) 1,
      .mv 3 (.t 9),
      .mv 4 (.t 10)])
    (.q (.q (.o [.mv 11 (.t 4),
      .un 12 .not (.t 11)])
    (.i (.t 12) (.q (.o [.mv 2 (.c (.s []))])
    (.r))
    (.k)))
    (.q (.q (.o [.mv 5 (.c (.i .i64 0))])
    (.b 0 (.l [3, 5] (.q (.q (.o [.mv 13 (.t 5),
      .mv 14 (.t 3),
      .ln 15 (.t 14),
      .bn 16 .lss (.t 13) (.t 15)])
    (.i (.t 16) (.k)
    (.x 0)))
    (.q (.b 1 (.o [.mv 19 (.t 3),
      .mv 20 (.t 5),
      .mv 21 (.t 3),
      .mv 22 (.t 5),
      .ia 23 (.t 21) (.t 22) 1,
      .ld 24 (.t 23) none,
      .cl (some 25) 130 [(.t 24)],
      .ia 26 (.t 19) (.t 20) 1,
      .st (.t 26) (.t 25) 1]))
    (.o [.mv 17 (.t 5),
      .bn 18 .add (.t 17) (.c (.i .i64 1)),
      .mv 5 (.t 18)]))))))
    (.q (.o [.mv 27 (.t 3),
      .cl (some 28) 128 [(.t 27)],
      .mv 2 (.t 28)])
    (.r)))))⟩
abbrev n_spec_FoldName : Nat := 109
theorem k_spec_FoldName : chkF Go.Proofs.Tryd.prog c_spec_FoldName 109 = true := by kernel_rfl
/-- loop.example/s01858/impl.fold -/
def c_impl_fold : Fn := ⟨1, [(.t 2)],
    .q (.o [.mv 2 (.c (.s []))])
    (.q (.o [.mv 6 (.t 0),
      .csb 7 (.t 6),
      .mv 3 (.t 7)])
    (.q (.q (.o [.mv 8 (.t 3),
      .ln 9 (.t 8),
      .mv 10 (.c (.i .i64 0))])
    (.b 0 (.l [3, 8, 9, 10] (.q (.o [.bn 11 .lss (.t 10) (.t 9)])
    (.q (.i (.t 11) (.k)
    (.x 0))
    (.q (.b 1 (.q (.o [.mv 12 (.t 10),
      .ia 13 (.t 8) (.t 10) 1,
      .ld 14 (.t 13) none,
      .mv 4 (.t 12),
      .mv 5 (.t 14)])
    (.q (.o [.mv 15 (.t 5),
      .bn 16 .geq (.t 15) (.c (.i .u8 65)),
      .mv 17 (.t 16),
      .gd 17 true (.mv 18 (.t 5)),
      .gd 17 true (.bn 19 .leq (.t 18) (.c (.i .u8 90))),
      .pk 20 (.t 17) (.t 19) (.c (.b false))])
    (.i (.t 20) (.o [.mv 21 (.t 3),
      .mv 22 (.t 4),
      .mv 23 (.t 5),
      .bn 24 .add (.t 23) (.c (.i .u8 32)),
      .ia 25 (.t 21) (.t 22) 1,
      .st (.t 25) (.t 24) 1])
    (.k)))))
    (.o [.bn 26 .add (.t 10) (.c (.i .i64 1)),
      .mv 10 (.t 26)])))))))
    (.q (.o [.mv 27 (.t 3),
      .cbs 28 (.t 27),
      .mv 2 (.t 28)])
    (.r))))⟩
abbrev n_impl_fold : Nat := 113
theorem k_impl_fold : chkF Go.Proofs.Tryd.prog c_impl_fold 113 = true := by kernel_rfl
/-- loop.example/s01858/impl.lastRecord -/
def c_impl_lastRecord : Fn := ⟨1, [(.t 2)],
    .q (.o [.mv 2 (.c (.i .i64 0))])
    (.q (.o [.mv 11 (.t 0),
      .cl (some 12) 32 [(.t 11)],
      .mv 10 (.t 12),
      .ex 13 (.t 10) 0,
      .ex 14 (.t 10) 1,
      .ex 15 (.t 10) 2,
      .lal 3 (.ag [(.i .i64 0), (.b false), (.i .i64 0), (.b false), (.b false), (.b false), (.b false), (.b false), (.b false), (.b false), (.i .i64 0)]),
      .lal 4 (.ag [(.i .i64 0), (.i .i64 0), (.i .i64 0), (.i .i64 0)]),
      .st (.t 3) (.t 13) 11,
      .st (.t 4) (.t 14) 4,
      .mv 5 (.t 15)])
    (.q (.o [.mv 16 (.t 0),
      .bd 17 [.ns, (.i .i64 0), (.i .i64 0)] [(0, 1, (.t 16)), (1, 1, (.c (.i .i64 12)))],
      .bx 18 (.t 17),
      .mv 6 (.t 18)])
    (.q (.q (.o [.mv 7 (.c (.i .i64 0))])
    (.b 0 (.l [4, 6, 7] (.q (.q (.o [.mv 19 (.t 7),
      .iaa 20 (.t 4) (.c (.i .i64 0)) 4 1,
      .ld 21 (.t 20) none,
      .bn 22 .lss (.t 19) (.t 21)])
    (.i (.t 22) (.k)
    (.x 0)))
    (.q (.b 1 (.q (.o [.mv 25 (.t 6),
      .cl (some 26) 33 [(.t 25)]])
    (.o [.mv 27 (.t 6),
      .cl (some 28) 35 [(.t 27), (.c (.i .i64 4))]])))
    (.o [.mv 23 (.t 7),
      .bn 24 .add (.t 23) (.c (.i .i64 1)),
      .mv 7 (.t 24)]))))))
    (.q (.o [.mv 29 (.t 6),
      .nc 30 (.t 29),
      .fa 31 (.t 30) 1,
      .ld 32 (.t 31) none,
      .mv 8 (.t 32)])
    (.q (.q (.o [.mv 9 (.c (.i .i64 0))])
    (.b 2 (.l [4, 6, 8, 9] (.q (.q (.o [.mv 33 (.t 9),
      .iaa 34 (.t 4) (.c (.i .i64 1)) 4 1,
      .ld 35 (.t 34) none,
      .iaa 36 (.t 4) (.c (.i .i64 2)) 4 1,
      .ld 37 (.t 36) none,
      .bn 38 .add (.t 35) (.t 37),
      .iaa 39 (.t 4) (.c (.i .i64 3)) 4 1,
      .ld 40 (.t 39) none,
      .bn 41 .add (.t 38) (.t 40),
      .bn 42 .lss (.t 33) (.t 41)])
    (.i (.t 42) (.k)
    (.x 2)))
    (.q (.b 3 (.q (.o [.mv 45 (.t 6),
      .nc 46 (.t 45),
      .fa 47 (.t 46) 1,
      .ld 48 (.t 47) none,
      .mv 8 (.t 48)])
    (.o [.mv 49 (.t 6),
      .cl (some 50) 36 [(.t 49)]])))
    (.o [.mv 43 (.t 9),
      .bn 44 .add (.t 43) (.c (.i .i64 1)),
      .mv 9 (.t 44)]))))))
    (.q (.o [.mv 51 (.t 8),
      .mv 2 (.t 51)])
    (.r)))))))⟩
abbrev n_impl_lastRecord : Nat := 115
theorem k_impl_lastRecord : chkF Go.Proofs.Tryd.prog c_impl_lastRecord 115 = true := by kernel_rfl
/-- loop.example/s01858/spec.l01Join -/
def c_spec_l01Join : Fn := ⟨1, [(.t 2)],
    .q (.o [.mv 2 (.c (.s []))])
    (.q (.o [.mv 3 (.c (.s []))])
    (.q (.q (.o [.mv 4 (.c (.i .i64 0))])
    (.b 0 (.l [0, 3, 4] (.q (.q (.o [.mv 5 (.t 4),
      .mv 6 (.t 0),
      .ln 7 (.t 6),
      .bn 8 .lss (.t 5) (.t 7)])
    (.i (.t 8) (.k)
    (.x 0)))
    (.q (.b 1 (.p [⟨.mv 11 (.t 3), [], false⟩,
      ⟨.mv 12 (.t 0), [], false⟩,
      ⟨.mv 13 (.t 4), [], false⟩,
      ⟨.ia 14 (.t 12) (.t 13) 1, [], false⟩,
      ⟨.ld 15 (.t 14) none, [], false⟩,
      ⟨.lns 16 (.t 15), [], false⟩,
      ⟨.ci 17 .u8 (.t 16), [], false⟩,
      ⟨.bs 18 (.i .u8 0) 1 1 [(0, (.t 17))], [], true⟩,
      ⟨.cbs 19 (.t 18), [], false⟩,
      ⟨.bn 20 .add (.t 11) (.t 19), [], false⟩,
      ⟨.mv 21 (.t 0), [], false⟩,
      ⟨.mv 22 (.t 4), [], false⟩,
      ⟨.ia 23 (.t 21) (.t 22) 1, [7], false⟩,
      ⟨.ld 24 (.t 23) none, [7], false⟩,
      ⟨.bn 25 .add (.t 20) (.t 24), [], false⟩,
      ⟨.mv 3 (.t 25), [], false⟩]))
    (.o [.mv 9 (.t 4),
      .bn 10 .add (.t 9) (.c (.i .i64 1)),
      .mv 4 (.t 10)]))))))
    (.q (.o [.mv 26 (.t 3),
      .bn 27 .add (.t 26) (.c (.s [0])),
      .mv 2 (.t 27)])
    (.r))))⟩
abbrev n_spec_l01Join : Nat := 128
theorem k_spec_l01Join : chkF Go.Proofs.Tryd.prog c_spec_l01Join 128 = true := by kernel_rfl
/-- loop.example/s01858/spec.l04Data -/
def c_spec_l04Data : Fn := ⟨4, [(.t 8), (.t 9)],
    .q (.o [.mv 8 (.c (.s [])),
      .mv 9 (.c (.i .i64 0))])
    (.q (.q (.o [.mv 17 (.t 2),
      .mv 18 (.t 3),
      .bn 19 .eql (.t 17) (.t 18)])
    (.i (.t 19) (.q (.o [.mv 8 (.c (.s [])),
      .mv 9 (.c (.i .i64 0))])
    (.r))
    (.k)))
    (.q (.q (.o [.mv 20 (.t 1),
      .cl (some 21) 125 [(.t 20)],
      .un 22 .not (.t 21)])
    (.i (.t 22) (.q (.o [.mv 23 (.t 0),
      .mv 24 (.t 2),
      .mv 25 (.t 3),
      .sl 26 (.t 23) (some (.t 24)) (some (.t 25)) 1,
      .cbs 27 (.t 26),
      .mv 10 (.t 27)])
    (.q (.q (.o [.mv 28 (.t 1),
      .mv 29 (.t 10),
      .cl (some 30) 122 [(.t 28), (.t 29)],
      .bn 31 .neq (.t 30) (.c (.i .i64 0))])
    (.i (.t 31) (.q (.o [.mv 8 (.c (.s [])),
      .mv 9 (.c (.i .i64 7))])
    (.r))
    (.k)))
    (.q (.o [.mv 32 (.t 10),
      .mv 8 (.t 32),
      .mv 9 (.c (.i .i64 0))])
    (.r))))
    (.k)))
    (.q (.o [.mv 11 (.c (.s []))])
    (.q (.o [.mv 33 (.t 1),
      .cl (some 34) 126 [(.t 33)],
      .mv 12 (.t 34)])
    (.q (.q (.o [.mv 13 (.c (.i .i64 0))])
    (.b 0 (.l [0, 2, 3, 11, 12, 13] (.q (.q (.o [.mv 35 (.t 13),
      .mv 36 (.t 12),
      .lns 37 (.t 36),
      .bn 38 .lss (.t 35) (.t 37)])
    (.i (.t 38) (.k)
    (.x 0)))
    (.q (.b 1 (.q (.q (.o [.mv 41 (.t 12),
      .mv 42 (.t 13),
      .ix 43 (.t 41) (.t 42),
      .bn 44 .eql (.t 43) (.c (.i .u8 98))])
    (.i (.t 44) (.q (.q (.o [.mv 45 (.t 2),
      .mv 46 (.t 3),
      .bn 47 .geq (.t 45) (.t 46)])
    (.i (.t 47) (.q (.o [.mv 8 (.c (.s [])),
      .mv 9 (.c (.i .i64 7))])
    (.r))
    (.k)))
    (.q (.o [.mv 48 (.t 11),
      .mv 49 (.t 0),
      .mv 50 (.t 2),
      .mv 51 (.t 2),
      .bn 52 .add (.t 51) (.c (.i .i64 1)),
      .sl 53 (.t 49) (some (.t 50)) (some (.t 52)) 1,
      .cbs 54 (.t 53),
      .bn 55 .add (.t 48) (.t 54),
      .mv 11 (.t 55)])
    (.q (.o [.mv 56 (.t 2),
      .bn 57 .add (.t 56) (.c (.i .i64 1)),
      .mv 2 (.t 57)])
    (.x 1))))
    (.k)))
    (.q (.o [.mv 59 (.t 0),
      .mv 60 (.t 2),
      .cl (some 61) 105 [(.t 59), (.t 60)],
      .mv 58 (.t 61),
      .ex 62 (.t 58) 0,
      .ex 63 (.t 58) 1,
      .ex 64 (.t 58) 2,
      .mv 14 (.t 62),
      .mv 15 (.t 63),
      .mv 16 (.t 64)])
    (.q (.q (.o [.mv 65 (.t 16),
      .bn 66 .neq (.t 65) (.c (.i .i64 0))])
    (.i (.t 66) (.q (.o [.mv 67 (.t 16),
      .mv 8 (.c (.s [])),
      .mv 9 (.t 67)])
    (.r))
    (.k)))
    (.q (.q (.o [.mv 68 (.t 15),
      .mv 69 (.t 3),
      .bn 70 .gtr (.t 68) (.t 69)])
    (.i (.t 70) (.q (.o [.mv 8 (.c (.s [])),
      .mv 9 (.c (.i .i64 7))])
    (.r))
    (.k)))
    (.q (.o [.mv 71 (.t 11),
      .mv 72 (.t 14),
      .bn 73 .add (.t 71) (.t 72),
      .mv 11 (.t 73)])
    (.o [.mv 74 (.t 15),
      .mv 2 (.t 74)])))))))
    (.o [.mv 39 (.t 13),
      .bn 40 .add (.t 39) (.c (.i .i64 1)),
      .mv 13 (.t 40)]))))))
    (.q (.q (.o [.mv 75 (.t 2),
      .mv 76 (.t 3),
      .bn 77 .neq (.t 75) (.t 76)])
    (.i (.t 77) (.q (.o [.mv 8 (.c (.s [])),
      .mv 9 (.c (.i .i64 7))])
    (.r))
    (.k)))
    (.q (.o [.mv 78 (.t 11),
      .mv 8 (.t 78),
      .mv 9 (.c (.i .i64 0))])
    (.r))))))))⟩
abbrev n_spec_l04Data : Nat := 129
theorem k_spec_l04Data : chkF Go.Proofs.Tryd.prog c_spec_l04Data 129 = true := by kernel_rfl
/-- loop.example/s01858/spec.l01Small -/
def c_spec_l01Small : Fn := ⟨1, [(.t 2)],
    .q (.o [.mv 2 (.c (.s []))])
    (.q (.o [.bs 6 (.i .u8 0) 1 0 [],
      .mv 3 (.t 6)])
    (.q (.q (.o [.mv 4 (.c (.i .i64 0))])
    (.b 0 (.l [0, 3, 4] (.q (.q (.o [.mv 7 (.t 4),
      .mv 8 (.t 0),
      .lns 9 (.t 8),
      .bn 10 .lss (.t 7) (.t 9)])
    (.i (.t 10) (.k)
    (.x 0)))
    (.q (.b 1 (.q (.o [.mv 13 (.t 0),
      .mv 14 (.t 4),
      .ix 15 (.t 13) (.t 14),
      .mv 5 (.t 15)])
    (.q (.q (.o [.mv 16 (.t 5),
      .bn 17 .geq (.t 16) (.c (.i .u8 65)),
      .mv 18 (.t 17),
      .gd 18 true (.mv 19 (.t 5)),
      .gd 18 true (.bn 20 .leq (.t 19) (.c (.i .u8 90))),
      .pk 21 (.t 18) (.t 20) (.c (.b false))])
    (.i (.t 21) (.o [.mv 22 (.t 5),
      .bn 23 .add (.t 22) (.c (.i .u8 32)),
      .mv 5 (.t 23)])
    (.k)))
    (.o [.mv 24 (.t 3),
      .mv 25 (.t 5),
      .lbs 26 (.i .u8 0) 1 1 [(0, (.t 25))],
      .ap 27 (.t 24) (.t 26) 1 1,
      .mv 3 (.t 27)]))))
    (.o [.mv 11 (.t 4),
      .bn 12 .add (.t 11) (.c (.i .i64 1)),
      .mv 4 (.t 12)]))))))
    (.q (.o [.mv 28 (.t 3),
      .cbs 29 (.t 28),
      .mv 2 (.t 29)])
    (.r))))⟩
abbrev n_spec_l01Small : Nat := 130
theorem k_spec_l01Small : chkF Go.Proofs.Tryd.prog c_spec_l01Small 130 = true := by kernel_rfl
end Go.Vm
/- Names folded and joined: the runs of both sides. -/
namespace Go.Vm
set_option linter.unusedVariables false
set_option linter.unusedSimpArgs false
def T_joinN (C : Tab) (f : Nat) : Prop := ∀ (a : AV) (ls : List (List UInt8)) (H : AH), Sl H 1 a (ls.map AV.s) → ls.length ≤ 1099511627776 → (∀ l, l ∈ ls → l.length ≤ 255) → ∃ v H', C f [a] H = some (v, H') ∧ v = .s (joinL ls) ∧ Ext H H'
def T_low (C : Tab) (f : Nat) : Prop := ∀ (s : List UInt8) (H : AH), s.length ≤ 1099511627776 → ∃ v H', C f [.s s] H = some (v, H') ∧ v = .s (s.map low) ∧ Ext H H'
def T_foldN (C : Tab) (f : Nat) : Prop := ∀ (s : List UInt8) (H : AH), s.length ≤ 1099511627776 → ∃ v H', C f [.s s] H = some (v, H') ∧ v = .s (foldN s) ∧ Ext H H'
def T_same (C : Tab) (f : Nat) : Prop := ∀ (s t : List UInt8) (H : AH), s.length ≤ 1099511627776 → t.length ≤ 1099511627776 → ∃ v H', C f [.s s, .s t] H = some (v, H') ∧ v = .b (decide (foldN s ≠ [] ∧ foldN s = foldN t)) ∧ Ext H H'
def algN : List UInt8 := [11, 104, 109, 97, 99, 45, 115, 104, 97, 50, 53, 54, 0]
def T_alg (C : Tab) (f : Nat) : Prop := ∀ (H : AH), ∃ v H', C f [] H = some (v, H') ∧ v = .s algN ∧ Ext H H'
theorem u8low (b : UInt8) : low b = if (65 : Int) ≤ (b.toNat : Int) ∧ (b.toNat : Int) ≤ 90 then b + 32 else b := by
  unfold low
  by_cases h : 65 ≤ b.toNat ∧ b.toNat ≤ 90
  · rw [if_pos h, if_pos (by omega)]
  · rw [if_neg h, if_neg (by omega)]
theorem u8add32 {b : UInt8} (h : (b.toNat : Int) ≤ 90) : IntKind.u8.wrap ((b.toNat : Int) + 32) = ((b + 32).toNat : Int) := by
  have e : (b + 32).toNat = b.toNat + 32 := by rw [UInt8.toNat_add]; show (b.toNat + 32) % 256 = _; omega
  rw [e, IntKind.wrap_u8]
  omega
theorem joinP_len : ∀ (ls : List (List UInt8)), (∀ l, l ∈ ls → l.length ≤ 255) → (joinP ls).length ≤ 256 * ls.length
  | [], _ => by simp [joinP]
  | s :: r, h => by
    have h1 := joinP_len r fun l hl => h l (.tail _ hl)
    have h2 := h s (.head _)
    simp only [joinP, List.length_cons, List.length_append]
    omega
theorem set_getD_self {l : List UInt8} {i : Nat} {d : UInt8} : l.set i (l.getD i d) = l := by
  apply List.ext_getElem (by simp)
  intro j h1 h2
  by_cases h : i = j
  · subst h; simp [List.getD, h2]
  · simp [h]
section
variable {C : Tab}
theorem r_joinN {a : AV} {ls : List (List UInt8)} {H : AH} (h : Sl H 1 a (ls.map AV.s)) (hn : ls.length ≤ 1099511627776) (hb : ∀ l, l ∈ ls → l.length ≤ 255) : Runs C c_spec_l01Join [a] H fun v H' => v = .s (joinL ls) ∧ Ext H H' := by
  unfold Runs c_spec_l01Join
  simp -implicitDefEqProofs only [bU, reduceIte, Nat.reduceEqDiff, reduceCtorEq, implies_true, forall_const, eq_self, Nat.reduceAdd, Nat.reduceLT, bne_self_eq_false, bT, eq_self, true_implies, false_implies, forall_const, if_true, if_false, Int.reduceToNat, Nat.reduceSub, Int.reduceLE]
  refine exec_loop (fun n e M => ∃ (i : Nat) (H' : AH) (L : List Lv) (g : Nat), i ≤ ls.length ∧ n = ls.length - i ∧ look e 0 = a ∧ look e 3 = .s (joinP (ls.take i)) ∧ look e 4 = .i .i64 i ∧ M = ⟨L, g, H'⟩ ∧ Ext H H') ?_ (n := ls.length) ⟨0, H, _, _, by omega, by omega, rfl, rfl, rfl, rfl, .refl H⟩
  rintro n e M ⟨i, H', L, g, hi, rfl, q0, q3, q4, rfl, he⟩
  have hs := h.ext he
  obtain ⟨l1, l2⟩ := hs.len
  rw [List.length_map] at l1
  by_cases h1 : (i : Int) < ls.length
  · have hil : i < ls.length := by omega
    have hg : (ls.map AV.s).getD i .u = .s ls[i] := by simp [List.getD, hil]
    have ia := fun (L : List Lv) (g : Nat) => hs.ia1 (j := i) (v := .s ls[i]) (by omega) (by rw [List.length_map]; omega) (by rw [toNat_nat, hg]; rfl) L g
    rw [toNat_nat] at ia
    have ia' := (hs.ext (H' := H'.new (.arr true 0 1 [.i .u8 (UInt8.ofNat ls[i].length).toNat])) (.new _ _))
    have ib := fun (L : List Lv) (g : Nat) => ia'.ia1 (j := i) (v := .s ls[i]) (by omega) (by rw [List.length_map]; omega) (by rw [toNat_nat, hg]; rfl) L g
    rw [toNat_nat] at ib
    obtain ⟨z1, z2, -⟩ := ia [] 0
    have w1 : IntKind.i64.wrap ((i : Int) + 1) = ((i + 1 : Nat) : Int) := by rw [w64 (by omega) (by omega)]; rfl
    have hbb : Byt (H'.new (.arr true 0 1 [.i .u8 (UInt8.ofNat ls[i].length).toNat])) (.sl H'.n 0 1) [UInt8.ofNat ls[i].length] := (Mb.new2 (l := [UInt8.ofNat ls[i].length]) rfl).sl
    obtain ⟨c1, c2⟩ := hbb.cbs
    simp -implicitDefEqProofs only [bU, reduceIte, Nat.reduceEqDiff, reduceCtorEq, implies_true, forall_const, eq_self, Nat.reduceAdd, Nat.reduceLT, bne_self_eq_false, bT, eq_self, true_implies, false_implies, forall_const, if_true, if_false, Int.reduceToNat, Nat.reduceSub, Int.reduceLE, bV, Nat.reduceAdd, Nat.reduceLT, Nat.reduceLeDiff, Nat.reduceLeDiff, lgAt, isRd, q0, q3, q4, l1, l2, h1, z1, z2, ia, ib, toNat_nat, w1, u8w, c1, c2, fillEC, fillE, List.replicate, List.set]
    have hl2 := joinP_len (ls.take i) fun l hl => hb l (List.mem_of_mem_take hl)
    have hl3 := hb _ (List.getElem_mem hil)
    rw [List.length_take, Nat.min_eq_left (by omega)] at hl2
    refine ⟨by omega, (ib [] 0).1, by rw [List.length_append, List.length_singleton]; omega, ls.length - (i + 1), by omega, i + 1, _, _, _, by omega, rfl, ?_, rfl, rfl, he.trans (.new _ _)⟩
    rw [← List.take_append_getElem hil, joinP_app]
    simp [joinP]
  · have hil : i = ls.length := by omega
    subst hil
    rw [List.take_length] at q3
    simp -implicitDefEqProofs only [bU, reduceIte, Nat.reduceEqDiff, reduceCtorEq, implies_true, forall_const, eq_self, Nat.reduceAdd, Nat.reduceLT, bne_self_eq_false, bT, eq_self, true_implies, false_implies, forall_const, if_true, if_false, Int.reduceToNat, Nat.reduceSub, Int.reduceLE, bV, Nat.reduceAdd, Nat.reduceLT, Nat.reduceLeDiff, Nat.reduceLeDiff, q0, q3, q4, l1, l2, h1, endK, rsC, rsV, resV]
    have hl2 := joinP_len ls hb
    exact ⟨by omega, rfl, he⟩
theorem r_lowS {s : List UInt8} {H : AH} (hs : s.length ≤ 1099511627776) : Runs C c_spec_l01Small [.s s] H fun v H' => v = .s (s.map low) ∧ Ext H H' := by
  unfold Runs c_spec_l01Small
  simp -implicitDefEqProofs only [bU, reduceIte, Nat.reduceEqDiff, reduceCtorEq, implies_true, forall_const, eq_self, Nat.reduceAdd, Nat.reduceLT, bne_self_eq_false, bT, eq_self, true_implies, false_implies, forall_const, if_true, if_false, Int.reduceToNat, Nat.reduceSub, Int.reduceLE, fillEC, fillE, List.replicate]
  refine exec_loop (fun n e M => ∃ (i : Nat) (o : AV) (H' : AH) (L : List Lv) (g : Nat), i ≤ s.length ∧ n = s.length - i ∧ look e 0 = .s s ∧ look e 3 = o ∧ look e 4 = .i .i64 i ∧ M = ⟨L, g, H'⟩ ∧ Mb H' o ((s.take i).map low) ∧ Ext H H' ∧ (∀ j, j ∈ idA o → H.n ≤ j)) ?_ (n := s.length)
    ⟨0, .sl H.n 0 0, _, _, _, by omega, by omega, rfl, rfl, rfl, rfl, Mb.new2 (H := H) (l := []) rfl, .new _ _, by simp [idA]⟩
  rintro n e M ⟨i, o, H', L, g, hi, rfl, q0, q3, q4, rfl, hm, he, hid⟩
  by_cases h1 : (i : Int) < s.length
  · have hil : i < s.length := by omega
    have hp : (0 : Int) ≤ (i : Int) := by omega
    have w1 : IntKind.i64.wrap ((i : Int) + 1) = ((i + 1 : Nat) : Int) := by rw [w64 (by omega) (by omega)]; rfl
    have hlow := u8low (s.getD i 0)
    have fin : ∀ o' H2, Mb H' o ((s.take i).map low) → Mn H2 1 o' (encB ((s.take i).map low) ++ [.i .u8 (low (s.getD i 0)).toNat]) → Mb H2 o' ((s.take (i + 1)).map low) := fun o' H2 _ p4 => by
      have e2 : s.take (i + 1) = s.take i ++ [s.getD i 0] := by
        rw [← List.take_append_getElem hil]; simp [List.getD, hil]
      unfold Mb
      rw [e2, List.map_append, enc_app]
      exact p4
    by_cases h2 : (65 : Int) ≤ ((s.getD i 0).toNat : Int)
    · by_cases h3 : ((s.getD i 0).toNat : Int) ≤ 90
      · rw [if_pos ⟨h2, h3⟩] at hlow
        have w2 := u8add32 h3
        rw [← hlow] at w2
        obtain ⟨p1, o', H2, p2, p3, p4, p5, p6, p7, -⟩ := Mn.ap (by' := 1) hm (lit_src (t := 26) (g := g) (x := .i .u8 (low (s.getD i 0)).toNat) (L := dropL (keepL [0, 3, 4] L) 26) (H := H')) (by simp <;> omega)
        simp -implicitDefEqProofs only [bU, reduceIte, Nat.reduceEqDiff, reduceCtorEq, implies_true, forall_const, eq_self, Nat.reduceAdd, Nat.reduceLT, bne_self_eq_false, bT, eq_self, true_implies, false_implies, forall_const, if_true, if_false, Int.reduceToNat, Nat.reduceSub, Int.reduceLE, bV, Nat.reduceAdd, Nat.reduceLT, Nat.reduceLeDiff, Nat.reduceLeDiff, q0, q3, q4, h1, h2, h3, hp, toNat_nat, w1, w2, fillEC, fillE, List.replicate, List.set]
        simp -implicitDefEqProofs only [bU, reduceIte, Nat.reduceEqDiff, reduceCtorEq, implies_true, forall_const, eq_self, Nat.reduceAdd, Nat.reduceLT, bne_self_eq_false, p1, p2, p3]
        exact ⟨s.length - (i + 1), by omega, i + 1, o', H2, _, _, by omega, rfl, rfl, rfl, rfl, fin o' H2 hm p4, he.put hid p5 p6, fun k hk => (p7 k hk).elim (hid k) fun h => by have := he.n; omega⟩
      · rw [if_neg fun h => h3 h.2] at hlow
        obtain ⟨p1, o', H2, p2, p3, p4, p5, p6, p7, -⟩ := Mn.ap (by' := 1) hm (lit_src (t := 26) (g := g) (x := .i .u8 (s.getD i 0).toNat) (L := dropL (keepL [0, 3, 4] L) 26) (H := H')) (by simp <;> omega)
        simp -implicitDefEqProofs only [bU, reduceIte, Nat.reduceEqDiff, reduceCtorEq, implies_true, forall_const, eq_self, Nat.reduceAdd, Nat.reduceLT, bne_self_eq_false, bT, eq_self, true_implies, false_implies, forall_const, if_true, if_false, Int.reduceToNat, Nat.reduceSub, Int.reduceLE, bV, Nat.reduceAdd, Nat.reduceLT, Nat.reduceLeDiff, Nat.reduceLeDiff, q0, q3, q4, h1, h2, h3, hp, toNat_nat, w1, fillEC, fillE, List.replicate, List.set]
        simp -implicitDefEqProofs only [bU, reduceIte, Nat.reduceEqDiff, reduceCtorEq, implies_true, forall_const, eq_self, Nat.reduceAdd, Nat.reduceLT, bne_self_eq_false, p1, p2, p3]
        rw [← hlow] at p4
        exact ⟨s.length - (i + 1), by omega, i + 1, o', H2, _, _, by omega, rfl, rfl, rfl, rfl, fin o' H2 hm p4, he.put hid p5 p6, fun k hk => (p7 k hk).elim (hid k) fun h => by have := he.n; omega⟩
    · rw [if_neg fun h => h2 h.1] at hlow
      obtain ⟨p1, o', H2, p2, p3, p4, p5, p6, p7, -⟩ := Mn.ap (by' := 1) hm (lit_src (t := 26) (g := g) (x := .i .u8 (s.getD i 0).toNat) (L := dropL (keepL [0, 3, 4] L) 26) (H := H')) (by simp <;> omega)
      simp -implicitDefEqProofs only [bU, reduceIte, Nat.reduceEqDiff, reduceCtorEq, implies_true, forall_const, eq_self, Nat.reduceAdd, Nat.reduceLT, bne_self_eq_false, bT, eq_self, true_implies, false_implies, forall_const, if_true, if_false, Int.reduceToNat, Nat.reduceSub, Int.reduceLE, bV, Nat.reduceAdd, Nat.reduceLT, Nat.reduceLeDiff, Nat.reduceLeDiff, q0, q3, q4, h1, h2, hp, toNat_nat, w1, fillEC, fillE, List.replicate, List.set]
      simp -implicitDefEqProofs only [bU, reduceIte, Nat.reduceEqDiff, reduceCtorEq, implies_true, forall_const, eq_self, Nat.reduceAdd, Nat.reduceLT, bne_self_eq_false, p1, p2, p3]
      rw [← hlow] at p4
      exact ⟨s.length - (i + 1), by omega, i + 1, o', H2, _, _, by omega, rfl, rfl, rfl, rfl, fin o' H2 hm p4, he.put hid p5 p6, fun k hk => (p7 k hk).elim (hid k) fun h => by have := he.n; omega⟩
  · have hil : i = s.length := by omega
    subst hil
    rw [List.take_length] at hm
    obtain ⟨c1, c2⟩ := Byt.cbs hm.sl
    simp -implicitDefEqProofs only [bU, reduceIte, Nat.reduceEqDiff, reduceCtorEq, implies_true, forall_const, eq_self, Nat.reduceAdd, Nat.reduceLT, bne_self_eq_false, bT, eq_self, true_implies, false_implies, forall_const, if_true, if_false, Int.reduceToNat, Nat.reduceSub, Int.reduceLE, bV, Nat.reduceAdd, Nat.reduceLT, Nat.reduceLeDiff, Nat.reduceLeDiff, q0, q3, q4, h1, c1, c2, endK, rsC, rsV, resV]
    exact he
theorem r_fold {s : List UInt8} {H : AH} (hs : s.length ≤ 1099511627776) : Runs C c_impl_fold [.s s] H fun v H' => v = .s (s.map low) ∧ Ext H H' := by
  unfold Runs c_impl_fold
  simp -implicitDefEqProofs only [bU, reduceIte, Nat.reduceEqDiff, reduceCtorEq, implies_true, forall_const, eq_self, Nat.reduceAdd, Nat.reduceLT, bne_self_eq_false, bT, eq_self, true_implies, false_implies, forall_const, if_true, if_false, Int.reduceToNat, Nat.reduceSub, Int.reduceLE, lenC, lenV]
  refine exec_loop (fun n e M => ∃ (i : Nat) (H' : AH) (L : List Lv) (g : Nat), i ≤ s.length ∧ n = s.length - i ∧ look e 3 = .sl H.n 0 s.length ∧ look e 8 = .sl H.n 0 s.length ∧ look e 9 = .i .i64 s.length ∧ look e 10 = .i .i64 i ∧ M = ⟨L, g, H'⟩ ∧ Mb H' (.sl H.n 0 s.length) ((s.take i).map low ++ s.drop i) ∧ Ext H H') ?_ (n := s.length)
    ⟨0, _, _, _, by omega, by omega, rfl, rfl, rfl, rfl, rfl, Mb.new2 (H := H) (l := s) rfl, .new _ _⟩
  rintro n e M ⟨i, H', L, g, hi, rfl, q3, q8, q9, q10, rfl, hm, he⟩
  by_cases h1 : (i : Int) < s.length
  · have hil : i < s.length := by omega
    have hp : (0 : Int) ≤ (i : Int) := by omega
    have w1 : IntKind.i64.wrap ((i : Int) + 1) = ((i + 1 : Nat) : Int) := by rw [w64 (by omega) (by omega)]; rfl
    have hlow := u8low (s.getD i 0)
    have hlen : ((s.take i).map low ++ s.drop i).length = s.length := by simp <;> omega
    have hget : ((s.take i).map low ++ s.drop i).getD i 0 = s.getD i 0 := by
      simp only [List.getD]
      rw [List.getElem?_append_right (by simp <;> omega)]
      simp [Nat.min_eq_left (Nat.le_of_lt hil)]
    have hset : ∀ x, x = low (s.getD i 0) → ((s.take i).map low ++ s.drop i).set i x = (s.take (i + 1)).map low ++ s.drop (i + 1) := fun x hx => by
      subst hx
      rw [List.set_append_right _ _ (by simp <;> omega), ← List.take_append_getElem hil, List.drop_eq_getElem_cons hil]
      have e : ((s.take i).map low).length = i := by simp <;> omega
      rw [e, Nat.sub_self, List.set_cons_zero, List.map_append, List.append_assoc]
      simp only [List.getD, List.getElem?_eq_getElem hil, Option.getD_some, List.map_cons, List.map_nil, List.singleton_append]
    have ia := fun (L : List Lv) (g : Nat) => Byt.ia hm.sl (j := i) (by omega) (by rw [hlen]; omega) L g
    rw [toNat_nat, hget] at ia
    obtain ⟨z1, z2, -⟩ := ia [] 0
    by_cases h2 : (65 : Int) ≤ ((s.getD i 0).toNat : Int)
    · by_cases h3 : ((s.getD i 0).toNat : Int) ≤ 90
      · rw [if_pos ⟨h2, h3⟩] at hlow
        have w2 := u8add32 h3
        rw [← hlow] at w2
        obtain ⟨-, -, s1, H2, s2, s3, s4, s5⟩ := Mb.st hm (j := i) (by omega) (by rw [hlen]; omega) (low (s.getD i 0)) (keepL [3, 8, 9, 10] L) g
        rw [toNat_nat] at s1 s2 s3
        rw [hset _ rfl] at s3
        simp -implicitDefEqProofs only [bU, reduceIte, Nat.reduceEqDiff, reduceCtorEq, implies_true, forall_const, eq_self, Nat.reduceAdd, Nat.reduceLT, bne_self_eq_false, bT, eq_self, true_implies, false_implies, forall_const, if_true, if_false, Int.reduceToNat, Nat.reduceSub, Int.reduceLE, bV, Nat.reduceAdd, Nat.reduceLT, Nat.reduceLeDiff, Nat.reduceLeDiff, q3, q8, q9, q10, h1, h2, h3, z1, z2, ia, hp, toNat_nat, w1, w2]
        exact ⟨s1, s.length - (i + 1), by omega, i + 1, H2, _, _, by omega, rfl, rfl, s2, s3, Kp.put he (Kp.st s4 s5) (by simp [idA])⟩
      · rw [if_neg fun h => h3 h.2] at hlow
        have hm' := hset _ hlow.symm
        have hm2 : ((s.take i).map low ++ s.drop i).set i (s.getD i 0) = (s.take i).map low ++ s.drop i := by
          rw [← hget]; exact set_getD_self
        rw [hm2] at hm'
        rw [hm'] at hm
        simp -implicitDefEqProofs only [bU, reduceIte, Nat.reduceEqDiff, reduceCtorEq, implies_true, forall_const, eq_self, Nat.reduceAdd, Nat.reduceLT, bne_self_eq_false, bT, eq_self, true_implies, false_implies, forall_const, if_true, if_false, Int.reduceToNat, Nat.reduceSub, Int.reduceLE, bV, Nat.reduceAdd, Nat.reduceLT, Nat.reduceLeDiff, Nat.reduceLeDiff, q3, q8, q9, q10, h1, h2, h3, z1, z2, ia, hp, toNat_nat, w1]
        exact ⟨s.length - (i + 1), by omega, i + 1, H', _, _, by omega, rfl, rfl, rfl, hm, he⟩
    · rw [if_neg fun h => h2 h.1] at hlow
      have hm' := hset _ hlow.symm
      have hm2 : ((s.take i).map low ++ s.drop i).set i (s.getD i 0) = (s.take i).map low ++ s.drop i := by
        rw [← hget]; exact set_getD_self
      rw [hm2] at hm'
      rw [hm'] at hm
      simp -implicitDefEqProofs only [bU, reduceIte, Nat.reduceEqDiff, reduceCtorEq, implies_true, forall_const, eq_self, Nat.reduceAdd, Nat.reduceLT, bne_self_eq_false, bT, eq_self, true_implies, false_implies, forall_const, if_true, if_false, Int.reduceToNat, Nat.reduceSub, Int.reduceLE, bV, Nat.reduceAdd, Nat.reduceLT, Nat.reduceLeDiff, Nat.reduceLeDiff, q3, q8, q9, q10, h1, h2, z1, z2, ia, hp, toNat_nat, w1]
      exact ⟨s.length - (i + 1), by omega, i + 1, H', _, _, by omega, rfl, rfl, rfl, hm, he⟩
  · have hil : i = s.length := by omega
    subst hil
    rw [List.take_length, List.drop_length, List.append_nil] at hm
    obtain ⟨c1, c2⟩ := Byt.cbs hm.sl
    simp -implicitDefEqProofs only [bU, reduceIte, Nat.reduceEqDiff, reduceCtorEq, implies_true, forall_const, eq_self, Nat.reduceAdd, Nat.reduceLT, bne_self_eq_false, bT, eq_self, true_implies, false_implies, forall_const, if_true, if_false, Int.reduceToNat, Nat.reduceSub, Int.reduceLE, bV, Nat.reduceAdd, Nat.reduceLT, Nat.reduceLeDiff, Nat.reduceLeDiff, q3, q8, q9, q10, h1, c1, c2, endK, rsC, rsV, resV]
    exact he
theorem r_foldN {s : List UInt8} {H : AH} (hL : T_split C n_spec_l01Split) (hS : T_low C n_spec_l01Small) (hJ : T_joinN C n_spec_l01Join) (hs : s.length ≤ 1099511627776) : Runs C c_spec_FoldName [.s s] H fun v H' => v = .s (foldN s) ∧ Ext H H' := by
  unfold Runs c_spec_FoldName
  obtain ⟨v, H1, k1, e1, k2⟩ := hL s H hs
  cases hn : nameL s with
  | none =>
    rw [hn] at k2
    obtain ⟨o, rfl, ho⟩ := k2
    simp -implicitDefEqProofs only [bU, reduceIte, Nat.reduceEqDiff, reduceCtorEq, implies_true, forall_const, eq_self, Nat.reduceAdd, Nat.reduceLT, bne_self_eq_false, bT, eq_self, true_implies, false_implies, forall_const, if_true, if_false, Int.reduceToNat, Nat.reduceSub, Int.reduceLE, k1, ho, endK, rsC, rsV, resV]
    exact ⟨by unfold foldN; rw [hn], e1⟩
  | some ls =>
    rw [hn] at k2
    obtain ⟨o, rfl, hm, hid⟩ := k2
    obtain ⟨j1, j2, j3, j4, j5⟩ := nameL_join hn
    have ho := hm.sl.out
    simp -implicitDefEqProofs only [bU, reduceIte, Nat.reduceEqDiff, reduceCtorEq, implies_true, forall_const, eq_self, Nat.reduceAdd, Nat.reduceLT, bne_self_eq_false, bT, eq_self, true_implies, false_implies, forall_const, if_true, if_false, Int.reduceToNat, Nat.reduceSub, Int.reduceLE, k1, ho]
    refine exec_loop (fun n e M => ∃ (i : Nat) (H' : AH) (L : List Lv) (g : Nat), i ≤ ls.length ∧ n = ls.length - i ∧ look e 3 = o ∧ look e 5 = .i .i64 i ∧ M = ⟨L, g, H'⟩ ∧ Mn H' 1 o (((ls.take i).map fun l => AV.s (l.map low)) ++ (ls.drop i).map AV.s) ∧ Ext H H') ?_ (n := ls.length)
      ⟨0, H1, _, _, by omega, by omega, rfl, rfl, rfl, by simpa using hm, e1⟩
    clear k1 hm e1
    rintro n e M ⟨i, H', L, g, hi, rfl, q3, q5, rfl, hm, he⟩
    have hlen : (((ls.take i).map fun l => AV.s (l.map low)) ++ (ls.drop i).map AV.s).length = ls.length := by simp <;> omega
    obtain ⟨l1, l2⟩ := hm.sl.len
    rw [hlen] at l1
    by_cases h1 : (i : Int) < ls.length
    · have hil : i < ls.length := by omega
      have hg : (((ls.take i).map fun l => AV.s (l.map low)) ++ (ls.drop i).map AV.s).getD i .u = .s ls[i] := by
        simp only [List.getD]
        rw [List.getElem?_append_right (by simp <;> omega)]
        simp [Nat.min_eq_left (Nat.le_of_lt hil), hil]
      have ia := fun (L : List Lv) (g : Nat) => hm.sl.ia1 (j := i) (v := .s ls[i]) (by omega) (by rw [hlen]; omega) (by rw [toNat_nat, hg]; rfl) L g
      rw [toNat_nat] at ia
      obtain ⟨z1, z2, -⟩ := ia [] 0
      have w1 : IntKind.i64.wrap ((i : Int) + 1) = ((i + 1 : Nat) : Int) := by rw [w64 (by omega) (by omega)]; rfl
      have hl3 := j4 _ (List.getElem_mem hil)
      obtain ⟨v2, H2, k2, rfl, e2⟩ := hS ls[i] H' (by omega)
      have hm2 := hm.ext e2
      obtain ⟨z3, z4, -⟩ := hm2.sl.ia1 (j := i) (v := .s ls[i]) (by omega) (by rw [hlen]; omega) (by rw [toNat_nat, hg]; rfl) [] 0
      obtain ⟨s1, H3, s2, s3, s4, s5⟩ := hm2.st (j := i) (v := .s (ls[i].map low)) (off := 0) (by omega) (by rw [hlen]; omega) (by rw [toNat_nat, hg]; exact Nat.le_refl _) (keepL [3, 5] L) g
      rw [toNat_nat, fa0] at s1 s2
      rw [toNat_nat, hg, setEl_one rfl (fun cs h => by cases h)] at s3
      have hset : ((((ls.take i).map fun l => AV.s (l.map low)) ++ (ls.drop i).map AV.s).set i (.s (ls[i].map low))) = ((ls.take (i + 1)).map fun l => AV.s (l.map low)) ++ (ls.drop (i + 1)).map AV.s := by
        rw [List.set_append_right _ _ (by simp <;> omega), ← List.take_append_getElem hil, List.drop_eq_getElem_cons hil]
        have e : ((ls.take i).map fun l => AV.s (l.map low)).length = i := by simp <;> omega
        rw [e, Nat.sub_self, List.map_cons, List.set_cons_zero, List.map_append, List.append_assoc]
        rfl
      rw [hset] at s3
      simp -implicitDefEqProofs only [bU, reduceIte, Nat.reduceEqDiff, reduceCtorEq, implies_true, forall_const, eq_self, Nat.reduceAdd, Nat.reduceLT, bne_self_eq_false, bT, eq_self, true_implies, false_implies, forall_const, if_true, if_false, Int.reduceToNat, Nat.reduceSub, Int.reduceLE, bV, Nat.reduceAdd, Nat.reduceLT, Nat.reduceLeDiff, Nat.reduceLeDiff, q3, q5, l1, l2, h1, z1, z2, z3, z4, ia, toNat_nat, w1, k2]
      exact ⟨s1, ls.length - (i + 1), by omega, i + 1, H3, _, _, by omega, rfl, rfl, s2, s3, Kp.put (he.trans e2) (Kp.st s4 s5) hid⟩
    · have hil : i = ls.length := by omega
      subst hil
      rw [List.take_length, List.drop_length, List.map_nil, List.append_nil] at hm
      have e3 : (ls.map fun l => AV.s (l.map low)) = (ls.map fun l => l.map low).map AV.s := by rw [List.map_map]; rfl
      rw [e3] at hm
      obtain ⟨v2, H2, k2, rfl, e2⟩ := hJ o (ls.map fun l => l.map low) H' hm.sl (by simp <;> omega) (fun l hl => by
        obtain ⟨x, hx, rfl⟩ := List.mem_map.1 hl
        have := j4 x hx
        simp; omega)
      simp -implicitDefEqProofs only [bU, reduceIte, Nat.reduceEqDiff, reduceCtorEq, implies_true, forall_const, eq_self, Nat.reduceAdd, Nat.reduceLT, bne_self_eq_false, bT, eq_self, true_implies, false_implies, forall_const, if_true, if_false, Int.reduceToNat, Nat.reduceSub, Int.reduceLE, bV, Nat.reduceAdd, Nat.reduceLT, Nat.reduceLeDiff, Nat.reduceLeDiff, q3, q5, l1, l2, h1, ho, k2, endK, rsC, rsV, resV]
      exact ⟨by rw [j2]; unfold foldN; rw [hn], he.trans e2⟩
theorem r_same {s t : List UInt8} {H : AH} (hF : T_foldN C n_spec_FoldName) (hs : s.length ≤ 1099511627776) (ht : t.length ≤ 1099511627776) : Runs C c_spec_SameName [.s s, .s t] H fun v H' => v = .b (decide (foldN s ≠ [] ∧ foldN s = foldN t)) ∧ Ext H H' := by
  unfold Runs c_spec_SameName
  obtain ⟨v1, H1, k1, rfl, e1⟩ := hF s H hs
  obtain ⟨v2, H2, k2, rfl, e2⟩ := hF t H1 ht
  generalize foldN s = x at *
  generalize foldN t = y at *
  by_cases h1 : x = []
  · subst h1
    simp -implicitDefEqProofs only [bU, reduceIte, Nat.reduceEqDiff, reduceCtorEq, implies_true, forall_const, eq_self, Nat.reduceAdd, Nat.reduceLT, bne_self_eq_false, bT, eq_self, true_implies, false_implies, forall_const, if_true, if_false, Int.reduceToNat, Nat.reduceSub, Int.reduceLE, k1, endK, rsC, rsV, resV]
    exact ⟨rfl, e1⟩
  · by_cases h2 : x = y
    · subst h2
      simp -implicitDefEqProofs only [bU, reduceIte, Nat.reduceEqDiff, reduceCtorEq, implies_true, forall_const, eq_self, Nat.reduceAdd, Nat.reduceLT, bne_self_eq_false, bT, eq_self, true_implies, false_implies, forall_const, if_true, if_false, Int.reduceToNat, Nat.reduceSub, Int.reduceLE, k1, k2, h1, endK, rsC, rsV, resV]
      exact ⟨by simp [h1], e1.trans e2⟩
    · simp -implicitDefEqProofs only [bU, reduceIte, Nat.reduceEqDiff, reduceCtorEq, implies_true, forall_const, eq_self, Nat.reduceAdd, Nat.reduceLT, bne_self_eq_false, bT, eq_self, true_implies, false_implies, forall_const, if_true, if_false, Int.reduceToNat, Nat.reduceSub, Int.reduceLE, k1, k2, h1, h2, endK, rsC, rsV, resV]
      exact ⟨by simp [h2], e1.trans e2⟩
theorem r_alg {H : AH} (hJ : T_joinN C n_spec_l01Join) : Runs C c_spec_l09Algorithm [] H fun v H' => v = .s algN ∧ Ext H H' := by
  unfold Runs c_spec_l09Algorithm
  have hm : Mn (H.new (.arr true 0 1 [AV.s [104, 109, 97, 99, 45, 115, 104, 97, 50, 53, 54]])) 1 (.sl H.n 0 1) ([[104, 109, 97, 99, 45, 115, 104, 97, 50, 53, 54]].map AV.s) := Mn.own (xs := [AV.s [104, 109, 97, 99, 45, 115, 104, 97, 50, 53, 54]]) (by simp) new_at
  obtain ⟨v2, H2, k2, rfl, e2⟩ := hJ (.sl H.n 0 1) _ _ hm.sl (by decide) (by decide)
  simp -implicitDefEqProofs only [bU, reduceIte, Nat.reduceEqDiff, reduceCtorEq, implies_true, forall_const, eq_self, Nat.reduceAdd, Nat.reduceLT, bne_self_eq_false, bT, eq_self, true_implies, false_implies, forall_const, if_true, if_false, Int.reduceToNat, Nat.reduceSub, Int.reduceLE, fillEC, fillE, List.replicate, List.set, k2, endK, rsC, rsV, resV]
  exact ⟨rfl, (Ext.new _ _).trans e2⟩
end
end Go.Vm
/- The reader of messages: the head, the reader's object, bytes taken, the root's name. -/
namespace Go.Vm
set_option linter.unusedVariables false
set_option linter.unusedSimpArgs false
def b2 (l : List UInt8) (k : Nat) : Nat := num ((l.drop k).take 2) 0
def hdOf (l : List UInt8) : Hd := ⟨b2 l 0, bitN (b2 l 2) 15, (b2 l 2 / 2048 % 16 : Nat), bitN (b2 l 2) 10, bitN (b2 l 2) 9, bitN (b2 l 2) 8, bitN (b2 l 2) 7, bitN (b2 l 2) 6, bitN (b2 l 2) 5, bitN (b2 l 2) 4, (b2 l 2 % 16 : Nat)⟩
def cntV (l : List UInt8) : AV := .ag [.i .i64 (b2 l 4), .i .i64 (b2 l 6), .i .i64 (b2 l 8), .i .i64 (b2 l 10)]
theorem b2_lt {l : List UInt8} {k : Nat} (h : k + 2 ≤ l.length) : b2 l k < 65536 := by
  unfold b2
  obtain ⟨x, y, hxy⟩ : ∃ x y, (l.drop k).take 2 = [x, y] := by
    have hl : ((l.drop k).take 2).length = 2 := by simp; omega
    match h : (l.drop k).take 2, hl with
    | [x, y], _ => exact ⟨x, y, rfl⟩
  rw [hxy, num2]
  have := x.toNat_lt; have := y.toNat_lt
  omega
structure Dec (H : AH) (id : Nat) (a : AV) (l : List UInt8) (p : Nat) (code : Int) : Prop where
  ob : Obj1 H id [a, .i .i64 p, .i .i64 code]
  b : Byt H a l
  cl : Cl H a
  ni : ¬ id ∈ idA a
  hl : l.length ≤ 65535
  hp : p ≤ l.length
def takeR (l : List UInt8) (p n : Nat) (code : Int) : List UInt8 × Nat × Int :=
  if code = 0 then (if p + n ≤ l.length then ((l.drop p).take n, p + n, 0) else (List.replicate n 0, p, 8)) else (List.replicate n 0, p, code)
def T_take (C : Tab) (f : Nat) : Prop := ∀ (id : Nat) (a : AV) (l : List UInt8) (p n : Nat) (code : Int) (H : AH), Dec H id a l p code → n ≤ 1099511627776 →
  ∃ v H', C f [.pv id 0, .i .i64 n] H = some (v, H') ∧ v = .s (takeR l p n code).1 ∧ Dec H' id a l (takeR l p n code).2.1 (takeR l p n code).2.2 ∧ Kp [id] H H'
theorem Dec.ext {H H' : AH} {id : Nat} {a : AV} {l : List UInt8} {p : Nat} {code : Int} (h : Dec H id a l p code) (he : Ext H H') : Dec H' id a l p code :=
  ⟨h.ob.ext he, Sl.ext h.b he, h.cl.fr fun i hi => he.at' i (Sl.lt h.b i hi), h.ni, h.hl, h.hp⟩
/-- Its two numbers set. -/
theorem Dec.st {H : AH} {id : Nat} {a : AV} {l : List UInt8} {p : Nat} {code : Int} (h : Dec H id a l p code) :
    (∀ (q : Nat), q ≤ l.length → (∀ (L : List Lv) (g : Nat), stC ⟨L, g, H⟩ (.i .i64 q) (.pv id 1)) ∧ ∃ H', (∀ (L : List Lv) (g : Nat), stM ⟨L, g, H⟩ (.i .i64 q) (.pv id 1) = ⟨L, g, H'⟩) ∧ Dec H' id a l q code ∧ Kp [id] H H') ∧
    ∀ (c : Int), (∀ (L : List Lv) (g : Nat), stC ⟨L, g, H⟩ (.i .i64 c) (.pv id 2)) ∧ ∃ H', (∀ (L : List Lv) (g : Nat), stM ⟨L, g, H⟩ (.i .i64 c) (.pv id 2) = ⟨L, g, H'⟩) ∧ Dec H' id a l p c ∧ Kp [id] H H' := by
  have hni := h.ni
  refine ⟨fun q hq => ?_, fun c => ?_⟩
  · obtain ⟨s1, H', s2, s3, s4, s5⟩ := h.ob.st (off := 1) (v := .i .i64 q) (by simp) rfl
    have ha : ∀ i, i ∈ idA a → H'.at' i = H.at' i := fun i hi => s5 i (by simp only [List.mem_singleton]; intro e; exact hni (e ▸ hi))
    exact ⟨s1, H', s2, ⟨s3, Sl.fr h.b (Nat.le_of_eq s4.symm) ha, h.cl.fr ha, hni, h.hl, hq⟩, .st s4 s5⟩
  · obtain ⟨s1, H', s2, s3, s4, s5⟩ := h.ob.st (off := 2) (v := .i .i64 c) (by simp) rfl
    have ha : ∀ i, i ∈ idA a → H'.at' i = H.at' i := fun i hi => s5 i (by simp only [List.mem_singleton]; intro e; exact hni (e ▸ hi))
    exact ⟨s1, H', s2, ⟨s3, Sl.fr h.b (Nat.le_of_eq s4.symm) ha, h.cl.fr ha, hni, h.hl, h.hp⟩, .st s4 s5⟩
theorem Dec.lds {H : AH} {id : Nat} {a : AV} {l : List UInt8} {p : Nat} {code : Int} (h : Dec H id a l p code) :
    ((∀ (L : List Lv) (g : Nat), ldC ⟨L, g, H⟩ none (.pv id 0)) ∧ (∀ (L : List Lv) (g : Nat), ldC ⟨L, g, H⟩ none (.pv id 1)) ∧ (∀ (L : List Lv) (g : Nat), ldC ⟨L, g, H⟩ none (.pv id 2))) ∧
    (∀ (L : List Lv) (g : Nat), ldX ⟨L, g, H⟩ none (.pv id 0) = a) ∧ (∀ (L : List Lv) (g : Nat), ldX ⟨L, g, H⟩ none (.pv id 1) = .i .i64 p) ∧ ∀ (L : List Lv) (g : Nat), ldX ⟨L, g, H⟩ none (.pv id 2) = .i .i64 code := by
  obtain ⟨a1, a2⟩ := h.ob.ld (off := 0) (by simp)
  obtain ⟨b1, b2⟩ := h.ob.ld (off := 1) (by simp)
  obtain ⟨c1, c2⟩ := h.ob.ld (off := 2) (by simp)
  exact ⟨⟨a1, b1, c1⟩, a2, b2, c2⟩
section
variable {C : Tab}
theorem r_DecodeHead {a : AV} {l : List UInt8} {H : AH} (hU : T_u16 C n_impl_u16) (hB : T_bit C n_impl_bit) (h : Byt H a l) (hc : Cl H a) (hl : 12 ≤ l.length) :
    Runs C c_impl_DecodeHead [a] H fun v H' => v = .tp [eH.v (hdOf (l.take 12)), cntV (l.take 12), .i .i64 0] ∧ H' = H := by
  unfold Runs c_impl_DecodeHead
  obtain ⟨l1, l2⟩ := h.len
  have hlt : ¬ (l.length : Int) < 12 := by omega
  obtain ⟨s1, s2, s3⟩ := h.sub hc (lo := 0) (hi := 12) (by omega) (by omega) (by simp; omega)
  have s3' : Byt H (slV 0 12 a) (l.take 12) := by
    have e : ((encB l).drop (0 : Int).toNat).take ((12 : Int).toNat - (0 : Int).toNat) = encB (l.take 12) := by rw [← enc_take]; rfl
    rw [e] at s3; exact s3
  obtain ⟨c1, c2⟩ := s3'.cbs
  have hs : (l.take 12).length = 12 := by simp; omega
  generalize l.take 12 = s at *
  have u : ∀ k, k + 2 ≤ 12 → ∀ H, C n_impl_u16 [.s ((s.drop k).take (12 - k))] H = some (.i .i64 (b2 s k), H) := fun k hk H => by
    rw [hU _ H (by simp; omega)]
    unfold b2
    rw [List.take_take, Nat.min_eq_left (by omega)]
  have u2 := fun H => u 2 (by omega) H
  have u4 := fun H => u 4 (by omega) H
  have u6 := fun H => u 6 (by omega) H
  have u8 := fun H => u 8 (by omega) H
  have u10 := fun H => u 10 (by omega) H
  have u0 := fun H => hU s H (by omega)
  have e0 : num (s.take 2) 0 = b2 s 0 := rfl
  simp only [e0] at u0
  simp only [Nat.reduceSub] at u2 u4 u6 u8 u10
  have hv := b2_lt (l := s) (k := 2) (by omega)
  have bb : ∀ (k : Nat), k ≤ 62 → ∀ H, C n_impl_bit [.i .i64 (b2 s 2 : Nat), .i .u64 k] H = some (.b (bitN (b2 s 2) k), H) := fun k hk H => hB _ k H (by omega) hk
  have b15 := fun H => bb 15 (by omega) H
  have b10 := fun H => bb 10 (by omega) H
  have b9 := fun H => bb 9 (by omega) H
  have b8 := fun H => bb 8 (by omega) H
  have b7 := fun H => bb 7 (by omega) H
  have b6 := fun H => bb 6 (by omega) H
  have b5 := fun H => bb 5 (by omega) H
  have b4 := fun H => bb 4 (by omega) H
  simp only [show ((15 : Nat) : Int) = 15 from rfl, show ((10 : Nat) : Int) = 10 from rfl, show ((9 : Nat) : Int) = 9 from rfl, show ((8 : Nat) : Int) = 8 from rfl, show ((7 : Nat) : Int) = 7 from rfl, show ((6 : Nat) : Int) = 6 from rfl, show ((5 : Nat) : Int) = 5 from rfl, show ((4 : Nat) : Int) = 4 from rfl] at b15 b10 b9 b8 b7 b6 b5 b4
  have f1 : ((b2 s 2 : Nat) : Int).fdiv (2 ^ (min 11 IntKind.i64.bits)) = ((b2 s 2 / 2048 : Nat) : Int) := fdiv_nat (b2 s 2) 11
  have f2 : bitw .and .i64 ((b2 s 2 / 2048 : Nat) : Int) 15 = ((b2 s 2 / 2048 % 16 : Nat) : Int) := and_low (k := 4) (by omega) (by decide)
  have f3 : bitw .and .i64 ((b2 s 2 : Nat) : Int) 15 = ((b2 s 2 % 16 : Nat) : Int) := and_low (k := 4) (by omega) (by decide)
  have g2 : (2 : Int) ≤ ((12 : Nat) : Int) := by omega
  have g4 : (4 : Int) ≤ ((12 : Nat) : Int) := by omega
  have g6 : (6 : Int) ≤ ((12 : Nat) : Int) := by omega
  have g8 : (8 : Int) ≤ ((12 : Nat) : Int) := by omega
  have g10 : (10 : Int) ≤ ((12 : Nat) : Int) := by omega
  simp -implicitDefEqProofs only [bU, reduceIte, Nat.reduceEqDiff, reduceCtorEq, implies_true, forall_const, eq_self, Nat.reduceAdd, Nat.reduceLT, bne_self_eq_false, bT, eq_self, true_implies, false_implies, forall_const, if_true, if_false, Int.reduceToNat, Nat.reduceSub, Int.reduceLE, bV, Nat.reduceAdd, Nat.reduceLT, Nat.reduceLeDiff, Nat.reduceLeDiff, lgAt, isRd, l1, l2, hlt, s1, s2, c1, c2, hs, toNat_nat, g2, g4, g6, g8, g10, u0, u2, u4, u6, u8, u10, b15, b10, b9, b8, b7, b6, b5, b4, f1, f2, f3, endK, rsC, rsV, resV, eH, Enc.v, cntV, hdOf]
theorem r_take {id : Nat} {a : AV} {l : List UInt8} {p n : Nat} {code : Int} {H : AH} (h : Dec H id a l p code) (hn : n ≤ 1099511627776) :
    Runs C c_impl_decoder_take [.pv id 0, .i .i64 n] H fun v H' => v = .s (takeR l p n code).1 ∧ Dec H' id a l (takeR l p n code).2.1 (takeR l p n code).2.2 ∧ Kp [id] H H' := by
  unfold Runs c_impl_decoder_take
  obtain ⟨⟨d1, d2, d3⟩, d4, d5, d6⟩ := h.lds
  obtain ⟨l1, l2⟩ := h.b.len
  have hl := h.hl; have hp := h.hp
  have z1 : (0 : Int) ≤ (n : Int) := by omega
  have z3 : (n : Int) ≤ 9223372036854775807 := by omega
  have z4 : (n : Int) * ((1 : Nat) : Int) ≤ 281474976710656 := by omega
  have hw : IntKind.i64.wrap ((p : Int) + (n : Int)) = ((p + n : Nat) : Int) := by rw [w64 (by omega) (by omega)]; omega
  have bad : ∀ (H : AH), Byt (H.new (.arr true 0 1 (List.replicate n (.i .u8 0)))) (.sl H.n 0 n) (List.replicate n 0) := fun H => by
    rw [rep_enc]; exact (Mb.new2 (by simp)).sl
  by_cases hc : code = 0
  · subst hc
    by_cases hb : (l.length : Int) < ((p + n : Nat) : Int)
    · obtain ⟨s1, H1, s2, s3, s4⟩ := h.st.2 8
      obtain ⟨⟨e1, e2, e3⟩, e4, e5, e6⟩ := s3.lds
      obtain ⟨c1, c2⟩ := (bad H1).cbs
      simp -implicitDefEqProofs only [bU, reduceIte, Nat.reduceEqDiff, reduceCtorEq, implies_true, forall_const, eq_self, Nat.reduceAdd, Nat.reduceLT, bne_self_eq_false, bT, eq_self, true_implies, false_implies, forall_const, if_true, if_false, Int.reduceToNat, Nat.reduceSub, Int.reduceLE, bV, Nat.reduceAdd, Nat.reduceLT, Nat.reduceLeDiff, Nat.reduceLeDiff, pv_faC, pv_faV, d1, d2, d3, d4, d5, d6, l1, l2, hw, hb, s1, s2, e1, e2, e3, e4, e5, e6, Int.reduceEq, z1, z3, z4, toNat_nat, c1, c2, endK, rsC, rsV, resV]
      unfold takeR
      rw [if_pos rfl, if_neg (by omega)]
      exact ⟨rfl, s3.ext (.new _ _), s4.trans (.ext (.new _ _))⟩
    · obtain ⟨s1, H1, s2, s3, s4⟩ := h.st.1 (p + n) (by omega)
      obtain ⟨⟨e1, e2, e3⟩, e4, e5, e6⟩ := s3.lds
      obtain ⟨t1, t2, t3⟩ := s3.b.sub s3.cl (lo := p) (hi := (p + n : Nat)) (by omega) (by omega) (by simp; omega)
      have t3' : Byt H1 (slV p (p + n) a) ((l.drop p).take n) := by
        have e : ((encB l).drop (p : Int).toNat).take (((p + n : Nat) : Int).toNat - (p : Int).toNat) = encB ((l.drop p).take n) := by
          rw [toNat_nat, toNat_nat, Nat.add_sub_cancel_left, enc_drop, enc_take]
        rw [e] at t3; exact t3
      obtain ⟨c1, c2⟩ := t3'.cbs
      have hw2 : IntKind.i64.wrap (((p + n : Nat) : Int) - (n : Int)) = (p : Int) := by rw [w64 (by omega) (by omega)]; omega
      simp -implicitDefEqProofs only [bU, reduceIte, Nat.reduceEqDiff, reduceCtorEq, implies_true, forall_const, eq_self, Nat.reduceAdd, Nat.reduceLT, bne_self_eq_false, bT, eq_self, true_implies, false_implies, forall_const, if_true, if_false, Int.reduceToNat, Nat.reduceSub, Int.reduceLE, bV, Nat.reduceAdd, Nat.reduceLT, Nat.reduceLeDiff, Nat.reduceLeDiff, pv_faC, pv_faV, d1, d2, d3, d4, d5, d6, l1, l2, hw, hb, s1, s2, e1, e2, e3, e4, e5, e6, Int.reduceEq, hw2, t1, t2, toNat_nat, c1, c2, endK, rsC, rsV, resV]
      unfold takeR
      rw [if_pos rfl, if_pos (by omega)]
      exact ⟨rfl, s3, s4⟩
  · obtain ⟨c1, c2⟩ := (bad H).cbs
    simp -implicitDefEqProofs only [bU, reduceIte, Nat.reduceEqDiff, reduceCtorEq, implies_true, forall_const, eq_self, Nat.reduceAdd, Nat.reduceLT, bne_self_eq_false, bT, eq_self, true_implies, false_implies, forall_const, if_true, if_false, Int.reduceToNat, Nat.reduceSub, Int.reduceLE, bV, Nat.reduceAdd, Nat.reduceLT, Nat.reduceLeDiff, Nat.reduceLeDiff, pv_faC, pv_faV, d1, d2, d3, d4, d5, d6, hc, z1, z3, z4, toNat_nat, c1, c2, endK, rsC, rsV, resV]
    unfold takeR
    rw [if_neg hc]
    exact ⟨rfl, h.ext (.new _ _), .ext (.new _ _)⟩
end
end Go.Vm
/- The reader of messages: the reader's names and records (of the root, without names in their data). -/
namespace Go.Vm
set_option linter.unusedVariables false
set_option linter.unusedSimpArgs false
theorem FormsOK.kp {H H' : AH} {id : Nat} {cs : List AV} (h : FormsOK H) (ho : Obj1 H id cs) (hc : cs.length ≠ 1) (hk : Kp [id] H H') : FormsOK H' := by
  obtain ⟨rw, mid, es, h1, h2, h3, h4, h5⟩ := h
  have g1 : ¬ gForms ∈ [id] := fun e => by
    rw [List.mem_singleton] at e
    rw [e, ho.at'] at h1
    injection h1 with _ _ h1
    exact hc h1
  have g2 : ¬ mid ∈ [id] := fun e => by
    rw [List.mem_singleton] at e
    rw [e, ho.at'] at h2
    cases h2
  exact ⟨rw, mid, es, (hk.at' _ h3 g1).trans h1, (hk.at' _ h4 g2).trans h2, Nat.lt_of_lt_of_le h3 hk.n, Nat.lt_of_lt_of_le h4 hk.n, h5⟩
section
variable {C : Tab}
end
end Go.Vm
/- Names within a message: the readers of both sides. -/
namespace Go.Vm
set_option linter.unusedVariables false
set_option linter.unusedSimpArgs false
def T_DecodeName (C : Tab) (f : Nat) : Prop := ∀ (a : AV) (l : List UInt8) (p : Nat) (H : AH), Byt H a l → Cl H a → l.length ≤ 65535 → p ≤ l.length →
  ∃ v H', C f [a, .i .i64 p] H = some (v, H') ∧ v = dnV (dn l p p none []) ∧ Ext H H'
section
variable {C : Tab}
set_option maxHeartbeats 1000000 in
theorem r_DecodeNameI {a : AV} {l : List UInt8} {p : Nat} {H : AH} (h : Byt H a l) (hc : Cl H a) (hl : l.length ≤ 65535) (hp : p ≤ l.length) :
    Runs C c_impl_DecodeName [a, .i .i64 p] H fun v H' => v = dnV (dn l p p none []) ∧ Ext H H' := by
  unfold Runs c_impl_DecodeName
  obtain ⟨l1, l2⟩ := h.len
  have oa := h.out
  have p0 : ¬ (p : Int) < 0 := by omega
  have p1 : ¬ (l.length : Int) < p := by omega
  simp -implicitDefEqProofs only [bU, reduceIte, Nat.reduceEqDiff, reduceCtorEq, implies_true, forall_const, eq_self, Nat.reduceAdd, Nat.reduceLT, bne_self_eq_false, bT, eq_self, true_implies, false_implies, forall_const, if_true, if_false, Int.reduceToNat, Nat.reduceSub, Int.reduceLE, bV, Nat.reduceAdd, Nat.reduceLT, Nat.reduceLeDiff, Nat.reduceLeDiff, l1, l2, p0, p1]
  refine exec_loop (fun n e M => ∃ (pos start : Nat) (nx : Option Nat) (out : List UInt8) (o : AV) (H' : AH) (L : List Lv) (g : Nat), start ≤ l.length ∧ pos ≤ l.length ∧ n = dnM l pos start ∧ look e 0 = a ∧ look e 7 = .i .i64 pos ∧ look e 8 = .i .i64 start ∧ look e 9 = nxV nx ∧ look e 10 = o ∧ M = ⟨L, g, H'⟩ ∧
    Mb H' o out ∧ out.length ≤ 254 ∧ Ext H H' ∧ (∀ j, j ∈ idA o → H.n ≤ j) ∧ (∀ k, nx = some k → k ≤ l.length) ∧ dn l p p none [] = dn l pos start nx out) ?_ (n := dnM l p p)
    ⟨p, p, none, [], .ns, H, _, _, hp, hp, rfl, rfl, rfl, rfl, rfl, rfl, rfl, .nil, by simp, .refl H, by simp [idA], fun k hk => (by cases hk), rfl⟩
  rintro n e M ⟨pos, start, nx, out, o, H', L, g, hst, hpos, rfl, q0, q7, q8, q9, q10, rfl, hm, hol, he, hid, hnx, hd⟩
  have hs : Byt H' a l := h.ext he
  have hc' : Cl H' a := hc.fr fun i hi => he.at' i (Sl.lt h i hi)
  obtain ⟨l1', l2'⟩ := hs.len
  have oo := hm.sl.out
  rw [dn.eq_1 l pos start nx out] at hd
  by_cases h1 : l.length ≤ pos
  · rw [dif_pos h1] at hd
    have h1' : (l.length : Int) ≤ pos := by omega
    simp -implicitDefEqProofs only [bU, reduceIte, Nat.reduceEqDiff, reduceCtorEq, implies_true, forall_const, eq_self, Nat.reduceAdd, Nat.reduceLT, bne_self_eq_false, bT, eq_self, true_implies, false_implies, forall_const, if_true, if_false, Int.reduceToNat, Nat.reduceSub, Int.reduceLE, bV, Nat.reduceAdd, Nat.reduceLT, Nat.reduceLeDiff, Nat.reduceLeDiff, q0, q7, q8, q9, q10, l1', l2', h1', endK, rsC, rsV, resV]
    rw [hd]
    exact ⟨rfl, he⟩
  rw [dif_neg h1] at hd
  have h1' : ¬ (l.length : Int) ≤ pos := by omega
  have ia := fun (L : List Lv) (g : Nat) => Byt.ia hs (j := pos) (by omega) (by omega) L g
  rw [toNat_nat] at ia
  obtain ⟨z1, z2, -⟩ := ia [] 0
  have hb := (l.getD pos 0).toNat_lt
  have w0 := i64b (l.getD pos 0)
  have w1 : IntKind.i64.wrap ((pos : Int) + 1) = ((pos + 1 : Nat) : Int) := by rw [w64 (by omega) (by omega)]; rfl
  by_cases h2 : (l.getD pos 0).toNat = 0
  · rw [if_pos h2] at hd
    have h2' : (((l.getD pos 0).toNat : Int) = 0) = True := eq_true (by omega)
    obtain ⟨p1', o', H1, p2', p3', p4', p5', p6', p7'⟩ := Mn.ap (by' := 1) hm (lit_src (t := 64) (g := g) (x := .i .u8 0) (L := dropL (keepL [0, 7, 8, 9, 10] L) 64)) (by simp <;> omega)
    have hb2 : Byt H1 o' (out ++ [0]) := by
      have : Mb H1 o' (out ++ [0]) := by unfold Mb; rw [enc_app]; exact p4'
      exact this.sl
    obtain ⟨c1, c2⟩ := hb2.cbs
    cases nx with
    | none =>
      simp only [nxV] at q9
      simp -implicitDefEqProofs only [bU, reduceIte, Nat.reduceEqDiff, reduceCtorEq, implies_true, forall_const, eq_self, Nat.reduceAdd, Nat.reduceLT, bne_self_eq_false, bT, eq_self, true_implies, false_implies, forall_const, if_true, if_false, Int.reduceToNat, Nat.reduceSub, Int.reduceLE, bV, Nat.reduceAdd, Nat.reduceLT, Nat.reduceLeDiff, Nat.reduceLeDiff, q0, q7, q8, q9, q10, l1', l2', h1', toNat_nat, z1, z2, ia, w0, w1, h2', Int.reduceLT, fillEC, fillE, List.replicate, List.set]
      simp -implicitDefEqProofs only [bU, reduceIte, Nat.reduceEqDiff, reduceCtorEq, implies_true, forall_const, eq_self, Nat.reduceAdd, Nat.reduceLT, bne_self_eq_false, bT, eq_self, true_implies, false_implies, forall_const, if_true, if_false, Int.reduceToNat, Nat.reduceSub, Int.reduceLE, bV, Nat.reduceAdd, Nat.reduceLT, Nat.reduceLeDiff, Nat.reduceLeDiff, p1', p2', p3', c1, c2, endK, rsC, rsV, resV]
      rw [hd]
      exact ⟨rfl, Kp.put he ⟨p5', fun i hi hn => p6' i hi hn⟩ hid⟩
    | some k =>
      simp only [nxV] at q9
      have hk : ¬ (k : Int) < 0 := by omega
      simp -implicitDefEqProofs only [bU, reduceIte, Nat.reduceEqDiff, reduceCtorEq, implies_true, forall_const, eq_self, Nat.reduceAdd, Nat.reduceLT, bne_self_eq_false, bT, eq_self, true_implies, false_implies, forall_const, if_true, if_false, Int.reduceToNat, Nat.reduceSub, Int.reduceLE, bV, Nat.reduceAdd, Nat.reduceLT, Nat.reduceLeDiff, Nat.reduceLeDiff, q0, q7, q8, q9, q10, l1', l2', h1', toNat_nat, z1, z2, ia, w0, w1, h2', hk, fillEC, fillE, List.replicate, List.set]
      simp -implicitDefEqProofs only [bU, reduceIte, Nat.reduceEqDiff, reduceCtorEq, implies_true, forall_const, eq_self, Nat.reduceAdd, Nat.reduceLT, bne_self_eq_false, bT, eq_self, true_implies, false_implies, forall_const, if_true, if_false, Int.reduceToNat, Nat.reduceSub, Int.reduceLE, bV, Nat.reduceAdd, Nat.reduceLT, Nat.reduceLeDiff, Nat.reduceLeDiff, p1', p2', p3', c1, c2, endK, rsC, rsV, resV]
      rw [hd]
      exact ⟨rfl, Kp.put he ⟨p5', fun i hi hn => p6' i hi hn⟩ hid⟩
  rw [if_neg h2] at hd
  have h2' : ¬ ((l.getD pos 0).toNat : Int) = 0 := by omega
  by_cases h3 : 192 ≤ (l.getD pos 0).toNat
  · rw [if_pos h3] at hd
    have g3 : ¬ ((l.getD pos 0).toNat : Int) ≤ 63 := by omega
    have g4 : ¬ ((l.getD pos 0).toNat : Int) < 192 := by omega
    by_cases h4 : l.length ≤ pos + 1
    · rw [if_pos h4] at hd
      have h4' : (l.length : Int) ≤ ((pos + 1 : Nat) : Int) := by omega
      simp -implicitDefEqProofs only [bU, reduceIte, Nat.reduceEqDiff, reduceCtorEq, implies_true, forall_const, eq_self, Nat.reduceAdd, Nat.reduceLT, bne_self_eq_false, bT, eq_self, true_implies, false_implies, forall_const, if_true, if_false, Int.reduceToNat, Nat.reduceSub, Int.reduceLE, bV, Nat.reduceAdd, Nat.reduceLT, Nat.reduceLeDiff, Nat.reduceLeDiff, q0, q7, q8, q9, q10, l1', l2', h1', toNat_nat, z1, z2, ia, w0, w1, h2', g3, g4, h4', endK, rsC, rsV, resV]
      rw [hd]
      exact ⟨rfl, he⟩
    rw [if_neg h4] at hd
    have h4' : ¬ (l.length : Int) ≤ ((pos + 1 : Nat) : Int) := by omega
    have ib := fun (L : List Lv) (g : Nat) => Byt.ia hs (j := (pos + 1 : Nat)) (by omega) (by omega) L g
    rw [toNat_nat] at ib
    obtain ⟨y1, y2, -⟩ := ib [] 0
    have hb2 := (l.getD (pos + 1) 0).toNat_lt
    have w2 := i64b (l.getD (pos + 1) 0)
    have f1 : bitw .and .i64 ((l.getD pos 0).toNat : Int) 63 = (((l.getD pos 0).toNat - 192 : Nat) : Int) := by
      have := and_low (k := 6) (n := (l.getD pos 0).toNat) (by omega) (by decide)
      rw [show (((2 : Nat) ^ 6 - 1 : Nat) : Int) = 63 by decide] at this
      rw [this]; omega
    have f2 : bitw .or .i64 (IntKind.i64.wrap ((((l.getD pos 0).toNat - 192 : Nat) : Int) * 2 ^ min 8 IntKind.i64.bits)) ((l.getD (pos + 1) 0).toNat : Int) = ((((l.getD pos 0).toNat - 192) * 256 + (l.getD (pos + 1) 0).toNat : Nat) : Int) := by
      have e : IntKind.i64.wrap ((((l.getD pos 0).toNat - 192 : Nat) : Int) * 2 ^ min 8 IntKind.i64.bits) = ((((l.getD pos 0).toNat - 192) * 2 ^ 8 : Nat) : Int) := by
        rw [show (2 : Int) ^ min 8 IntKind.i64.bits = 256 by decide, w64 (by omega) (by omega)]; omega
      rw [e]; exact or_hi (k := 8) (by omega) (by omega)
    generalize hoff : ((l.getD pos 0).toNat - 192) * 256 + (l.getD (pos + 1) 0).toNat = off at hd f2
    by_cases h5 : start ≤ off
    · rw [dif_pos h5] at hd
      have h5' : (start : Int) ≤ off := by omega
      simp -implicitDefEqProofs only [bU, reduceIte, Nat.reduceEqDiff, reduceCtorEq, implies_true, forall_const, eq_self, Nat.reduceAdd, Nat.reduceLT, bne_self_eq_false, bT, eq_self, true_implies, false_implies, forall_const, if_true, if_false, Int.reduceToNat, Nat.reduceSub, Int.reduceLE, bV, Nat.reduceAdd, Nat.reduceLT, Nat.reduceLeDiff, Nat.reduceLeDiff, q0, q7, q8, q9, q10, l1', l2', h1', toNat_nat, z1, z2, ia, w0, w1, h2', g3, g4, h4', y1, y2, ib, w2, f1, f2, h5', endK, rsC, rsV, resV]
      rw [hd]
      exact ⟨rfl, he⟩
    rw [dif_neg h5] at hd
    have h5' : ¬ (start : Int) ≤ off := by omega
    have hm2 := dnM_ptr (b := l) (pos := pos) (Nat.lt_of_not_le h5)
    have w3 : IntKind.i64.wrap ((pos : Int) + 2) = ((pos + 2 : Nat) : Int) := by rw [w64 (by omega) (by omega)]; rfl
    cases nx with
    | none =>
      simp only [nxV] at q9
      simp -implicitDefEqProofs only [bU, reduceIte, Nat.reduceEqDiff, reduceCtorEq, implies_true, forall_const, eq_self, Nat.reduceAdd, Nat.reduceLT, bne_self_eq_false, bT, eq_self, true_implies, false_implies, forall_const, if_true, if_false, Int.reduceToNat, Nat.reduceSub, Int.reduceLE, bV, Nat.reduceAdd, Nat.reduceLT, Nat.reduceLeDiff, Nat.reduceLeDiff, q0, q7, q8, q9, q10, l1', l2', h1', toNat_nat, z1, z2, ia, w0, w1, h2', g3, g4, h4', y1, y2, ib, w2, f1, f2, h5', w3, Int.reduceLT]
      exact ⟨_, hm2, off, off, some (pos + 2), out, o, H', _, _, by omega, by omega, rfl, rfl, rfl, rfl, rfl, rfl, hm, hol, he, hid, fun k hk => by injection hk with hk; omega, hd⟩
    | some k =>
      simp only [nxV] at q9
      have hk : ¬ (k : Int) < 0 := by omega
      simp -implicitDefEqProofs only [bU, reduceIte, Nat.reduceEqDiff, reduceCtorEq, implies_true, forall_const, eq_self, Nat.reduceAdd, Nat.reduceLT, bne_self_eq_false, bT, eq_self, true_implies, false_implies, forall_const, if_true, if_false, Int.reduceToNat, Nat.reduceSub, Int.reduceLE, bV, Nat.reduceAdd, Nat.reduceLT, Nat.reduceLeDiff, Nat.reduceLeDiff, q0, q7, q8, q9, q10, l1', l2', h1', toNat_nat, z1, z2, ia, w0, w1, h2', g3, g4, h4', y1, y2, ib, w2, f1, f2, h5', hk]
      exact ⟨_, hm2, off, off, some k, out, o, H', _, _, by omega, by omega, rfl, rfl, rfl, rfl, rfl, rfl, hm, hol, he, hid, hnx, hd⟩
  rw [if_neg h3] at hd
  by_cases h6 : 63 < (l.getD pos 0).toNat
  · rw [if_pos h6] at hd
    have g3 : ¬ ((l.getD pos 0).toNat : Int) ≤ 63 := by omega
    have g4 : ((l.getD pos 0).toNat : Int) < 192 := by omega
    simp -implicitDefEqProofs only [bU, reduceIte, Nat.reduceEqDiff, reduceCtorEq, implies_true, forall_const, eq_self, Nat.reduceAdd, Nat.reduceLT, bne_self_eq_false, bT, eq_self, true_implies, false_implies, forall_const, if_true, if_false, Int.reduceToNat, Nat.reduceSub, Int.reduceLE, bV, Nat.reduceAdd, Nat.reduceLT, Nat.reduceLeDiff, Nat.reduceLeDiff, q0, q7, q8, q9, q10, l1', l2', h1', toNat_nat, z1, z2, ia, w0, w1, h2', g3, g4, endK, rsC, rsV, resV]
    rw [hd]
    exact ⟨rfl, he⟩
  rw [if_neg h6] at hd
  have g3 : ((l.getD pos 0).toNat : Int) ≤ 63 := by omega
  have w2 : IntKind.i64.wrap (((pos + 1 : Nat) : Int) + ((l.getD pos 0).toNat : Int)) = ((pos + 1 + (l.getD pos 0).toNat : Nat) : Int) := by rw [w64 (by omega) (by omega)]; omega
  have w3 : IntKind.i64.wrap (1 + ((l.getD pos 0).toNat : Int)) = ((1 + (l.getD pos 0).toNat : Nat) : Int) := by rw [w64 (by omega) (by omega)]; omega
  have w4 : IntKind.i64.wrap ((pos : Int) + ((1 + (l.getD pos 0).toNat : Nat) : Int)) = ((pos + 1 + (l.getD pos 0).toNat : Nat) : Int) := by rw [w64 (by omega) (by omega)]; omega
  by_cases h7 : l.length < pos + 1 + (l.getD pos 0).toNat
  · rw [if_pos h7] at hd
    have h7' : (l.length : Int) < ((pos + 1 + (l.getD pos 0).toNat : Nat) : Int) := by omega
    simp -implicitDefEqProofs only [bU, reduceIte, Nat.reduceEqDiff, reduceCtorEq, implies_true, forall_const, eq_self, Nat.reduceAdd, Nat.reduceLT, bne_self_eq_false, bT, eq_self, true_implies, false_implies, forall_const, if_true, if_false, Int.reduceToNat, Nat.reduceSub, Int.reduceLE, bV, Nat.reduceAdd, Nat.reduceLT, Nat.reduceLeDiff, Nat.reduceLeDiff, q0, q7, q8, q9, q10, l1', l2', h1', toNat_nat, z1, z2, ia, w0, w1, h2', g3, w2, h7', endK, rsC, rsV, resV]
    rw [hd]
    exact ⟨rfl, he⟩
  rw [if_neg h7] at hd
  have h7' : ¬ (l.length : Int) < ((pos + 1 + (l.getD pos 0).toNat : Nat) : Int) := by omega
  obtain ⟨t1, t2, t3⟩ := hs.sub hc' (lo := pos) (hi := (pos + 1 + (l.getD pos 0).toNat : Nat)) (by omega) (by omega) (by rw [enc_len]; omega)
  have hcl : ((encB l).drop (pos : Int).toNat).take (((pos + 1 + (l.getD pos 0).toNat : Nat) : Int).toNat - (pos : Int).toNat) = encB ((l.drop pos).take (1 + (l.getD pos 0).toNat)) := by
    rw [toNat_nat, toNat_nat, show pos + 1 + (l.getD pos 0).toNat - pos = 1 + (l.getD pos 0).toNat by omega, enc_drop, enc_take]
  rw [hcl, toNat_nat, toNat_nat] at t3
  have hsl : ((l.drop pos).take (1 + (l.getD pos 0).toNat)).length = 1 + (l.getD pos 0).toNat := by rw [List.length_take, List.length_drop]; omega
  obtain ⟨p1, o', H1, p2, p3, p4, p5, p6, p7, -⟩ := Mn.ap (by' := 1) hm (t3.src (keepL [0, 7, 8, 9, 10] L) g) (by rw [enc_len, enc_len, hsl]; omega)
  have hm' : Mb H1 o' (out ++ (l.drop pos).take (1 + (l.getD pos 0).toNat)) := by unfold Mb; rw [enc_app]; exact p4
  have hlen2 : (out ++ (l.drop pos).take (1 + (l.getD pos 0).toNat)).length = out.length + 1 + (l.getD pos 0).toNat := by rw [List.length_append, hsl]; omega
  obtain ⟨m1, m2⟩ := Byt.len hm'.sl
  rw [hlen2] at m1
  have he1 : Ext H H1 := Kp.put he ⟨p5, fun i hi hn => p6 i hi hn⟩ hid
  have hid1 : ∀ j, j ∈ idA o' → H.n ≤ j := fun k hk => (p7 k hk).elim (hid k) fun h => by have := he.n; omega
  have w5 : IntKind.i64.wrap (((out.length + 1 + (l.getD pos 0).toNat : Nat) : Int) + 1) = ((out.length + 1 + (l.getD pos 0).toNat + 1 : Nat) : Int) := by rw [w64 (by omega) (by omega)]; omega
  by_cases h8 : 255 < out.length + 1 + (l.getD pos 0).toNat + 1
  · rw [if_pos h8] at hd
    have h8' : (255 : Int) < ((out.length + 1 + (l.getD pos 0).toNat + 1 : Nat) : Int) := by omega
    simp -implicitDefEqProofs only [bU, reduceIte, Nat.reduceEqDiff, reduceCtorEq, implies_true, forall_const, eq_self, Nat.reduceAdd, Nat.reduceLT, bne_self_eq_false, bT, eq_self, true_implies, false_implies, forall_const, if_true, if_false, Int.reduceToNat, Nat.reduceSub, Int.reduceLE, bV, Nat.reduceAdd, Nat.reduceLT, Nat.reduceLeDiff, Nat.reduceLeDiff, q0, q7, q8, q9, q10, l1', l2', h1', toNat_nat, z1, z2, ia, w0, w1, h2', g3, w2, h7', t1, t2, p1, p2, p3, m1, m2, w5, h8', endK, rsC, rsV, resV]
    rw [hd]
    exact ⟨rfl, he1⟩
  rw [if_neg h8] at hd
  have h8' : ¬ (255 : Int) < ((out.length + 1 + (l.getD pos 0).toNat + 1 : Nat) : Int) := by omega
  have hm3 := dnM_lab (b := l) (pos := pos) (start := start) (k := 1 + (l.getD pos 0).toNat) (by omega) (by omega)
  rw [← Nat.add_assoc] at hm3
  simp -implicitDefEqProofs only [bU, reduceIte, Nat.reduceEqDiff, reduceCtorEq, implies_true, forall_const, eq_self, Nat.reduceAdd, Nat.reduceLT, bne_self_eq_false, bT, eq_self, true_implies, false_implies, forall_const, if_true, if_false, Int.reduceToNat, Nat.reduceSub, Int.reduceLE, bV, Nat.reduceAdd, Nat.reduceLT, Nat.reduceLeDiff, Nat.reduceLeDiff, q0, q7, q8, q9, q10, l1', l2', h1', toNat_nat, z1, z2, ia, w0, w1, h2', g3, w2, w3, w4, h7', t1, t2, p1, p2, p3, m1, m2, w5, h8']
  exact ⟨_, hm3, pos + 1 + (l.getD pos 0).toNat, start, nx, _, o', H1, _, _, hst, by omega, rfl, rfl, rfl, rfl, rfl, rfl, hm', by omega, he1, hid1, hnx, hd⟩
end
end Go.Vm
