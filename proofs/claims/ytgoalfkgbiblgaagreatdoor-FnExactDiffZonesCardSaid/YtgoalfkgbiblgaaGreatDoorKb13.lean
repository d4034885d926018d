import Derived.Test.YtgoalfkgbiblgaaGreatDoorKb3
import Derived.Test.YtgoalfkgbiblgaaGreatDoorProg
import Derived.KernelRfl
import Derived.Test.YtgoalfkgbiblgaaGreatDoorKb4
import Derived.Test.YtgoalfkgbiblgaaGreatDoorKb12
/- Functions' code as literals of the abstract machine, printed by wip/tools/lits.py; the kernel checks each against the translation. -/
set_option linter.unusedVariables false
set_option linter.unusedSimpArgs false
set_option maxRecDepth 100000
open Nat renaming reduceEqDiff→Jc,reduceAdd→Ja,reduceLT→Jb,reduceLeDiff→Jg
open Int renaming reduceLT→Ji
namespace Go.Vm
def Jxg:Fn:=⟨2,[(.t 4)],
  .q (.o [.lbx 2 (.t 0),
   .lbx 3 (.t 1),
   .mv 4 (.c (.b false))])
  (.q (.o [.mv 5 (.c (.i .i64 1048576))])
  (.q (.o [.ld 17 (.t 2) (some 2),
   .mv 18 (.t 5),
   .cl (some 19) 15 [(.t 17),(.t 18)],
   .mv 5 (.t 19)])
  (.q (.q (.o [.mv 20 (.t 5),
   .bn 21 .lss (.t 20) (.c (.i .i64 0))])
  (.i (.t 21) (.q (.o [.mv 4 (.c (.b true))])
  (.r))
  (.k)))
  (.q (.o [.ld 22 (.t 3) (some 2),
   .mv 23 (.t 5),
   .cl (some 24) 15 [(.t 22),(.t 23)],
   .mv 5 (.t 24)])
  (.q (.q (.o [.mv 25 (.t 5),
   .bn 26 .lss (.t 25) (.c (.i .i64 0))])
  (.i (.t 26) (.q (.o [.mv 4 (.c (.b true))])
  (.r))
  (.k)))
  (.q (.p [⟨.ld 28 (.t 2) (some 2),[],true⟩,
   ⟨.cl (some 29) 17 [(.t 28)],[],true⟩,
   ⟨.ld 30 (.t 3) (some 2),[1],true⟩,
   ⟨.cl (some 31) 17 [(.t 30)],[],false⟩,
   ⟨.cl (some 32) 24 [(.t 29),(.t 31)],[],false⟩,
   ⟨.mv 27 (.t 32),[],false⟩,
   ⟨.ex 33 (.t 27) 0,[],false⟩,
   ⟨.ex 34 (.t 27) 1,[],false⟩,
   ⟨.lal 6 (.ag [(.s []),(.i .i64 0),(.i .i64 0),(.i .i64 0),(.s []),(.s []),(.i .i64 0),(.i .i64 0),(.i .i64 0),(.s []),.ns,.ns]),[0,2],false⟩,
   ⟨.st (.t 6) (.t 33) 12,[],false⟩,
   ⟨.mv 7 (.t 34),[],false⟩])
  (.q (.o [.ld 35 (.t 2) (some 2),
   .cl (some 36) 17 [(.t 35)],
   .lal 8 (.ag [(.s []),.ns]),
   .st (.t 8) (.t 36) 2])
  (.q (.o [.ld 37 (.t 3) (some 2),
   .cl (some 38) 17 [(.t 37)],
   .lal 9 (.ag [(.s []),.ns]),
   .st (.t 9) (.t 38) 2])
  (.q (.o [.ld 40 (.t 8) (some 2),
   .ld 41 (.t 9) (some 2),
   .cl (some 42) 25 [(.t 40),(.t 41)],
   .mv 39 (.t 42),
   .ex 43 (.t 39) 0,
   .ex 44 (.t 39) 1,
   .lal 10 (.ag [(.s []),(.i .i64 0),(.i .i64 0),(.i .i64 0),(.s []),(.s []),(.i .i64 0),(.i .i64 0),(.i .i64 0),(.s []),.ns,.ns]),
   .st (.t 10) (.t 43) 12,
   .mv 11 (.t 44)])
  (.q (.q (.o [.ld 45 (.t 10) (some 12),
   .ld 46 (.t 6) (some 12),
   .cl (some 47) 26 [(.t 45),(.t 46)],
   .un 48 .not (.t 47),
   .mv 49 (.t 48),
   .gd 49 false (.mv 50 (.t 11)),
   .gd 49 false (.mv 51 (.t 7)),
   .gd 49 false (.bn 52 .neq (.t 50) (.t 51)),
   .pk 53 (.t 49) (.c (.b true)) (.t 52)])
  (.i (.t 53) (.q (.o [.mv 4 (.c (.b false))])
  (.r))
  (.k)))
  (.q (.q (.p [⟨.ld 54 (.t 8) (some 2),[],true⟩,
   ⟨.ld 55 (.t 2) (some 2),[],false⟩,
   ⟨.cl (some 56) 17 [(.t 55)],[0],false⟩,
   ⟨.cl (some 57) 20 [(.t 54),(.t 56)],[],false⟩,
   ⟨.un 58 .not (.t 57),[],false⟩])
  (.i (.t 58) (.q (.o [.mv 4 (.c (.b false))])
  (.r))
  (.k)))
  (.q (.q (.p [⟨.ld 59 (.t 9) (some 2),[],true⟩,
   ⟨.ld 60 (.t 3) (some 2),[],false⟩,
   ⟨.cl (some 61) 17 [(.t 60)],[0],false⟩,
   ⟨.cl (some 62) 20 [(.t 59),(.t 61)],[],false⟩,
   ⟨.un 63 .not (.t 62),[],false⟩])
  (.i (.t 63) (.q (.o [.mv 4 (.c (.b false))])
  (.r))
  (.k)))
  (.q (.o [.mv 12 (.c (.i .i64 1))])
  (.q (.o [.ld 64 (.t 8) (some 2),
   .mv 65 (.t 12),
   .cl (some 66) 21 [(.t 64),(.t 65)],
   .mv 12 (.t 66)])
  (.q (.o [.ld 67 (.t 9) (some 2),
   .mv 68 (.t 12),
   .cl (some 69) 21 [(.t 67),(.t 68)],
   .mv 12 (.t 69)])
  (.q (.q (.o [.mv 70 (.t 12),
   .bn 71 .lss (.t 70) (.c (.i .i64 0)),
   .mv 72 (.t 71),
   .gd 72 false (.ld 73 (.t 10) (some 12)),
   .gd 72 false (.ld 74 (.t 6) (some 12)),
   .gd 72 false (.cl (some 75) 26 [(.t 73),(.t 74)]),
   .gd 72 false (.un 76 .not (.t 75)),
   .pk 77 (.t 72) (.c (.b true)) (.t 76),
   .mv 78 (.t 77),
   .gd 78 false (.mv 79 (.t 11)),
   .gd 78 false (.mv 80 (.t 7)),
   .gd 78 false (.bn 81 .neq (.t 79) (.t 80)),
   .pk 82 (.t 78) (.c (.b true)) (.t 81)])
  (.i (.t 82) (.q (.o [.mv 4 (.c (.b false))])
  (.r))
  (.k)))
  (.q (.o [.mv 13 (.c (.i .i64 1))])
  (.q (.o [.ld 83 (.t 10) (some 12),
   .mv 84 (.t 13),
   .cl (some 85) 27 [(.t 83),(.t 84)],
   .mv 13 (.t 85)])
  (.q (.o [.mv 14 (.c (.i .i64 1))])
  (.q (.o [.ld 86 (.t 10) (some 12),
   .mv 87 (.t 14),
   .cl (some 88) 28 [(.t 86),(.t 87)],
   .mv 14 (.t 88)])
  (.q (.q (.o [.mv 89 (.t 14),
   .bn 90 .lss (.t 89) (.c (.i .i64 0))])
  (.i (.t 90) (.q (.o [.mv 4 (.c (.b false))])
  (.r))
  (.k)))
  (.q (.q (.o [.mv 91 (.t 14),
   .mv 92 (.t 13),
   .bn 93 .neq (.t 91) (.t 92)])
  (.i (.t 93) (.q (.o [.mv 4 (.c (.b false))])
  (.r))
  (.k)))
  (.q (.p [⟨.ld 95 (.t 2) (some 2),[],true⟩,
   ⟨.cl (some 96) 17 [(.t 95)],[],true⟩,
   ⟨.ld 97 (.t 3) (some 2),[1],true⟩,
   ⟨.cl (some 98) 17 [(.t 97)],[],false⟩,
   ⟨.cl (some 99) 25 [(.t 96),(.t 98)],[],false⟩,
   ⟨.mv 94 (.t 99),[],false⟩,
   ⟨.ex 100 (.t 94) 0,[],false⟩,
   ⟨.ex 101 (.t 94) 1,[],false⟩,
   ⟨.lal 15 (.ag [(.s []),(.i .i64 0),(.i .i64 0),(.i .i64 0),(.s []),(.s []),(.i .i64 0),(.i .i64 0),(.i .i64 0),(.s []),.ns,.ns]),[0,2],false⟩,
   ⟨.st (.t 15) (.t 100) 12,[],false⟩,
   ⟨.mv 16 (.t 101),[],false⟩])
  (.q (.q (.o [.ld 102 (.t 15) (some 12),
   .ld 103 (.t 6) (some 12),
   .cl (some 104) 26 [(.t 102),(.t 103)],
   .un 105 .not (.t 104),
   .mv 106 (.t 105),
   .gd 106 false (.mv 107 (.t 16)),
   .gd 106 false (.mv 108 (.t 7)),
   .gd 106 false (.bn 109 .neq (.t 107) (.t 108)),
   .pk 110 (.t 106) (.c (.b true)) (.t 109)])
  (.i (.t 110) (.q (.o [.mv 4 (.c (.b false))])
  (.r))
  (.k)))
  (.q (.o [.mv 14 (.c (.i .i64 1))])
  (.q (.o [.ld 111 (.t 10) (some 12),
   .mv 112 (.t 14),
   .cl (some 113) 28 [(.t 111),(.t 112)],
   .mv 14 (.t 113)])
  (.q (.q (.o [.mv 114 (.t 14),
   .bn 115 .lss (.t 114) (.c (.i .i64 0))])
  (.i (.t 115) (.q (.o [.mv 4 (.c (.b false))])
  (.r))
  (.k)))
  (.q (.q (.o [.mv 116 (.t 14),
   .mv 117 (.t 13),
   .bn 118 .neq (.t 116) (.t 117)])
  (.i (.t 118) (.q (.o [.mv 4 (.c (.b false))])
  (.r))
  (.k)))
  (.q (.o [.mv 4 (.c (.b true))])
  (.r))))))))))))))))))))))))))))))⟩
abbrev Jxo:Nat:=4
theorem JxZ:Qi Go.Proofs.Tryz.prog Jxg 4=true:=by kernel_rfl
def Jxq:Fn:=⟨2,[(.c 4 (some 12)),(.t 5)],
  .q (.o [.lbx 2 (.t 0),
   .lbx 3 (.t 1),
   .lal 4 (.ag [(.s []),(.i .i64 0),(.i .i64 0),(.i .i64 0),(.s []),(.s []),(.i .i64 0),(.i .i64 0),(.i .i64 0),(.s []),.ns,.ns]),
   .mv 5 (.c (.i .i64 0))])
  (.q (.q (.o [.ld 8 (.t 2) (some 2),
   .cl (some 9) 76 [(.t 8)],
   .bn 10 .neq (.t 9) (.c (.i .i64 0)),
   .mv 11 (.t 10),
   .gd 11 false (.ld 12 (.t 3) (some 2)),
   .gd 11 false (.cl (some 13) 76 [(.t 12)]),
   .gd 11 false (.bn 14 .neq (.t 13) (.c (.i .i64 0))),
   .pk 15 (.t 11) (.c (.b true)) (.t 14),
   .mv 16 (.t 15),
   .gd 16 false (.fa 17 (.t 2) 0),
   .gd 16 false (.ld 18 (.t 17) none),
   .gd 16 false (.fa 19 (.t 3) 0),
   .gd 16 false (.ld 20 (.t 19) none),
   .gd 16 false (.bn 21 .neq (.t 18) (.t 20)),
   .pk 22 (.t 16) (.c (.b true)) (.t 21)])
  (.i (.t 22) (.q (.o [.bd 23 [(.s []),(.i .i64 0),(.i .i64 0),(.i .i64 0),(.s []),(.s []),(.i .i64 0),(.i .i64 0),(.i .i64 0),(.s []),.ns,.ns] [],
   .st (.t 4) (.t 23) 12,
   .mv 5 (.c (.i .i64 32))])
  (.r))
  (.k)))
  (.q (.q (.p [⟨.ld 24 (.t 2) (some 2),[],false⟩,
   ⟨.cl (some 25) 88 [(.t 24)],[],true⟩,
   ⟨.ld 26 (.t 3) (some 2),[1],false⟩,
   ⟨.cl (some 27) 88 [(.t 26)],[],false⟩,
   ⟨.cl (some 28) 87 [(.t 25),(.t 27)],[],false⟩,
   ⟨.un 29 .not (.t 28),[],false⟩])
  (.i (.t 29) (.q (.o [.bd 30 [(.s []),(.i .i64 0),(.i .i64 0),(.i .i64 0),(.s []),(.s []),(.i .i64 0),(.i .i64 0),(.i .i64 0),(.s []),.ns,.ns] [],
   .st (.t 4) (.t 30) 12,
   .mv 5 (.c (.i .i64 27))])
  (.r))
  (.k)))
  (.q (.o [.ld 31 (.t 2) (some 2),
   .cl (some 32) 89 [(.t 31)],
   .mv 6 (.t 32)])
  (.q (.o [.ld 33 (.t 3) (some 2),
   .cl (some 34) 89 [(.t 33)],
   .mv 7 (.t 34)])
  (.q (.p [⟨.ld 35 (.t 2) (some 2),[],false⟩,
   ⟨.cl (some 36) 90 [(.t 35)],[],true⟩,
   ⟨.ld 37 (.t 3) (some 2),[1],false⟩,
   ⟨.cl (some 38) 90 [(.t 37)],[],false⟩,
   ⟨.mv 39 (.t 6),[],false⟩,
   ⟨.mv 40 (.t 7),[],false⟩,
   ⟨.cl (some 41) 91 [(.t 39),(.t 40)],[],false⟩,
   ⟨.mv 42 (.t 7),[],false⟩,
   ⟨.mv 43 (.t 6),[],false⟩,
   ⟨.cl (some 44) 91 [(.t 42),(.t 43)],[],false⟩,
   ⟨.bd 45 [(.s []),(.i .i64 0),(.i .i64 0),(.i .i64 0),(.s []),(.s []),(.i .i64 0),(.i .i64 0),(.i .i64 0),(.s []),.ns,.ns] [(0,5,(.t 36)),(5,5,(.t 38)),(10,1,(.t 41)),(11,1,(.t 44))],[],false⟩,
   ⟨.st (.t 4) (.t 45) 12,[],false⟩,
   ⟨.mv 5 (.c (.i .i64 0)),[],false⟩])
  (.r))))))⟩
abbrev JxF:Nat:=24
theorem Jyc:Qi Go.Proofs.Tryz.prog Jxq 24=true:=by kernel_rfl
def Jxr:Fn:=⟨2,[(.c 4 (some 12)),(.t 5)],
  .q (.o [.lbx 2 (.t 0),
   .lbx 3 (.t 1),
   .lal 4 (.ag [(.s []),(.i .i64 0),(.i .i64 0),(.i .i64 0),(.s []),(.s []),(.i .i64 0),(.i .i64 0),(.i .i64 0),(.s []),.ns,.ns]),
   .mv 5 (.c (.i .i64 0))])
  (.q (.q (.o [.ld 10 (.t 2) (some 2),
   .cl (some 11) 81 [(.t 10)],
   .bn 12 .neq (.t 11) (.c (.i .i64 0)),
   .mv 13 (.t 12),
   .gd 13 false (.ld 14 (.t 3) (some 2)),
   .gd 13 false (.cl (some 15) 81 [(.t 14)]),
   .gd 13 false (.bn 16 .neq (.t 15) (.c (.i .i64 0))),
   .pk 17 (.t 13) (.c (.b true)) (.t 16),
   .mv 18 (.t 17),
   .gd 18 false (.fa 19 (.t 2) 0),
   .gd 18 false (.ld 20 (.t 19) none),
   .gd 18 false (.fa 21 (.t 3) 0),
   .gd 18 false (.ld 22 (.t 21) none),
   .gd 18 false (.bn 23 .neq (.t 20) (.t 22)),
   .pk 24 (.t 18) (.c (.b true)) (.t 23)])
  (.i (.t 24) (.q (.o [.bd 25 [(.s []),(.i .i64 0),(.i .i64 0),(.i .i64 0),(.s []),(.s []),(.i .i64 0),(.i .i64 0),(.i .i64 0),(.s []),.ns,.ns] [],
   .st (.t 4) (.t 25) 12,
   .mv 5 (.c (.i .i64 32))])
  (.r))
  (.k)))
  (.q (.q (.p [⟨.ld 26 (.t 2) (some 2),[],false⟩,
   ⟨.cl (some 27) 93 [(.t 26)],[],true⟩,
   ⟨.ld 28 (.t 3) (some 2),[1],false⟩,
   ⟨.cl (some 29) 93 [(.t 28)],[],false⟩,
   ⟨.cl (some 30) 92 [(.t 27),(.t 29)],[],false⟩,
   ⟨.un 31 .not (.t 30),[],false⟩])
  (.i (.t 31) (.q (.o [.bd 32 [(.s []),(.i .i64 0),(.i .i64 0),(.i .i64 0),(.s []),(.s []),(.i .i64 0),(.i .i64 0),(.i .i64 0),(.s []),.ns,.ns] [],
   .st (.t 4) (.t 32) 12,
   .mv 5 (.c (.i .i64 27))])
  (.r))
  (.k)))
  (.q (.o [.ld 34 (.t 2) (some 2),
   .cl (some 35) 94 [(.t 34)],
   .mv 33 (.t 35),
   .ex 36 (.t 33) 0,
   .ex 37 (.t 33) 1,
   .lal 6 (.ag [(.s []),(.i .i64 0),(.i .i64 0),(.i .i64 0),(.s [])]),
   .st (.t 6) (.t 36) 5,
   .mv 7 (.t 37)])
  (.q (.o [.ld 39 (.t 3) (some 2),
   .cl (some 40) 94 [(.t 39)],
   .mv 38 (.t 40),
   .ex 41 (.t 38) 0,
   .ex 42 (.t 38) 1,
   .lal 8 (.ag [(.s []),(.i .i64 0),(.i .i64 0),(.i .i64 0),(.s [])]),
   .st (.t 8) (.t 41) 5,
   .mv 9 (.t 42)])
  (.q (.p [⟨.ld 43 (.t 6) (some 5),[],true⟩,
   ⟨.ld 44 (.t 8) (some 5),[],true⟩,
   ⟨.mv 45 (.t 7),[],false⟩,
   ⟨.mv 46 (.t 9),[],false⟩,
   ⟨.cl (some 47) 95 [(.t 45),(.t 46)],[0,1],false⟩,
   ⟨.mv 48 (.t 9),[],false⟩,
   ⟨.mv 49 (.t 7),[],false⟩,
   ⟨.cl (some 50) 95 [(.t 48),(.t 49)],[0,1],false⟩,
   ⟨.bd 51 [(.s []),(.i .i64 0),(.i .i64 0),(.i .i64 0),(.s []),(.s []),(.i .i64 0),(.i .i64 0),(.i .i64 0),(.s []),.ns,.ns] [(0,5,(.t 43)),(5,5,(.t 44)),(10,1,(.t 47)),(11,1,(.t 50))],[],false⟩,
   ⟨.st (.t 4) (.t 51) 12,[],false⟩,
   ⟨.mv 5 (.c (.i .i64 0)),[],false⟩])
  (.r))))))⟩
abbrev JxE:Nat:=25
theorem Jya:Qi Go.Proofs.Tryz.prog Jxr 25=true:=by kernel_rfl
def Jxs:Fn:=⟨2,[(.t 4)],
  .q (.o [.lbx 2 (.t 0),
   .lbx 3 (.t 1),
   .mv 4 (.c (.b false))])
  (.q (.q (.o [.fa 5 (.t 2) 0,
   .ld 6 (.t 5) (some 5),
   .fa 7 (.t 3) 0,
   .ld 8 (.t 7) (some 5),
   .cl (some 9) 96 [(.t 6),(.t 8)],
   .un 10 .not (.t 9)])
  (.i (.t 10) (.q (.o [.mv 4 (.c (.b false))])
  (.r))
  (.k)))
  (.q (.q (.o [.fa 11 (.t 2) 5,
   .ld 12 (.t 11) (some 5),
   .fa 13 (.t 3) 5,
   .ld 14 (.t 13) (some 5),
   .cl (some 15) 96 [(.t 12),(.t 14)],
   .un 16 .not (.t 15)])
  (.i (.t 16) (.q (.o [.mv 4 (.c (.b false))])
  (.r))
  (.k)))
  (.q (.q (.o [.fa 17 (.t 2) 10,
   .ld 18 (.t 17) none,
   .fa 19 (.t 3) 10,
   .ld 20 (.t 19) none,
   .cl (some 21) 33 [(.t 18),(.t 20)],
   .un 22 .not (.t 21)])
  (.i (.t 22) (.q (.o [.mv 4 (.c (.b false))])
  (.r))
  (.k)))
  (.q (.q (.o [.fa 23 (.t 2) 11,
   .ld 24 (.t 23) none,
   .fa 25 (.t 3) 11,
   .ld 26 (.t 25) none,
   .cl (some 27) 33 [(.t 24),(.t 26)],
   .un 28 .not (.t 27)])
  (.i (.t 28) (.q (.o [.mv 4 (.c (.b false))])
  (.r))
  (.k)))
  (.q (.o [.mv 4 (.c (.b true))])
  (.r))))))⟩
abbrev JxL:Nat:=26
theorem Jyf:Qi Go.Proofs.Tryz.prog Jxs 26=true:=by kernel_rfl
def Jxj:Fn:=⟨2,[(.t 4)],
  .q (.o [.lbx 2 (.t 0),
   .mv 4 (.c (.i .i64 0))])
  (.q (.o [.fa 5 (.t 2) 10,
   .ld 6 (.t 5) none,
   .mv 7 (.t 1),
   .cl (some 8) 50 [(.t 6),(.t 7)],
   .mv 1 (.t 8)])
  (.q (.o [.fa 9 (.t 2) 11,
   .ld 10 (.t 9) none,
   .mv 11 (.t 1),
   .cl (some 12) 50 [(.t 10),(.t 11)],
   .mv 1 (.t 12)])
  (.q (.o [.mv 13 (.t 1),
   .mv 4 (.t 13)])
  (.r))))⟩
abbrev Jxi:Nat:=27
theorem Jx7:Qi Go.Proofs.Tryz.prog Jxj 27=true:=by kernel_rfl
def Jxk:Fn:=⟨2,[(.t 4)],
  .q (.o [.lbx 2 (.t 0),
   .mv 4 (.c (.i .i64 0))])
  (.q (.o [.fa 5 (.t 2) 10,
   .ld 6 (.t 5) none,
   .mv 7 (.t 1),
   .cl (some 8) 51 [(.t 6),(.t 7)],
   .mv 1 (.t 8)])
  (.q (.q (.o [.mv 9 (.t 1),
   .bn 10 .lss (.t 9) (.c (.i .i64 0))])
  (.i (.t 10) (.q (.o [.mv 4 (.c (.i .i64 (-1)))])
  (.r))
  (.k)))
  (.q (.o [.fa 11 (.t 2) 11,
   .ld 12 (.t 11) none,
   .mv 13 (.t 1),
   .cl (some 14) 51 [(.t 12),(.t 13)],
   .mv 1 (.t 14)])
  (.q (.q (.o [.mv 15 (.t 1),
   .bn 16 .lss (.t 15) (.c (.i .i64 0))])
  (.i (.t 16) (.q (.o [.mv 4 (.c (.i .i64 (-1)))])
  (.r))
  (.k)))
  (.q (.o [.mv 17 (.t 1),
   .mv 4 (.t 17)])
  (.r))))))⟩
abbrev Jxh:Nat:=28
theorem Jx8:Qi Go.Proofs.Tryz.prog Jxk 28=true:=by kernel_rfl
def JxC:Fn:=⟨2,[(.t 4)],
  .q (.o [.mv 4 (.c (.i .i64 0))])
  (.q (.q (.o [.mv 5 (.c (.i .i64 0))])
  (.b 0 (.l [0,1,5] (.q (.q (.o [.mv 6 (.t 5),
   .mv 7 (.t 0),
   .ln 8 (.t 7),
   .bn 9 .lss (.t 6) (.t 8)])
  (.i (.t 9) (.k)
  (.x 0)))
  (.q (.b 1 (.q (.q (.p [⟨.mv 12 (.t 0),[],false⟩,
   ⟨.mv 13 (.t 5),[],false⟩,
   ⟨.ia 14 (.t 12) (.t 13) 5,[],true⟩,
   ⟨.fa 15 (.t 14) 0,[],false⟩,
   ⟨.ld 16 (.t 15) none,[],true⟩,
   ⟨.mv 17 (.t 1),[],false⟩,
   ⟨.cl (some 18) 120 [(.t 17)],[2,4],false⟩,
   ⟨.bn 19 .neq (.t 16) (.t 18),[],false⟩])
  (.i (.t 19) (.q (.o [.mv 4 (.c (.i .i64 (-1)))])
  (.r))
  (.k)))
  (.q (.o [.mv 20 (.t 1),
   .bn 21 .add (.t 20) (.c (.i .i64 1)),
   .mv 1 (.t 21)])
  (.q (.q (.o [.mv 22 (.t 0),
   .mv 23 (.t 5),
   .ia 24 (.t 22) (.t 23) 5,
   .fa 25 (.t 24) 1,
   .ld 26 (.t 25) none,
   .mv 27 (.t 1),
   .bn 28 .neq (.t 26) (.t 27)])
  (.i (.t 28) (.q (.o [.mv 4 (.c (.i .i64 (-1)))])
  (.r))
  (.k)))
  (.q (.o [.mv 29 (.t 1),
   .bn 30 .add (.t 29) (.c (.i .i64 1)),
   .mv 1 (.t 30)])
  (.q (.q (.o [.mv 31 (.t 0),
   .mv 32 (.t 5),
   .ia 33 (.t 31) (.t 32) 5,
   .fa 34 (.t 33) 2,
   .ld 35 (.t 34) none,
   .mv 36 (.t 1),
   .bn 37 .neq (.t 35) (.t 36)])
  (.i (.t 37) (.q (.o [.mv 4 (.c (.i .i64 (-1)))])
  (.r))
  (.k)))
  (.q (.o [.mv 38 (.t 1),
   .bn 39 .add (.t 38) (.c (.i .i64 1)),
   .mv 1 (.t 39)])
  (.q (.q (.o [.mv 40 (.t 0),
   .mv 41 (.t 5),
   .ia 42 (.t 40) (.t 41) 5,
   .fa 43 (.t 42) 3,
   .ld 44 (.t 43) none,
   .mv 45 (.t 1),
   .bn 46 .neq (.t 44) (.t 45)])
  (.i (.t 46) (.q (.o [.mv 4 (.c (.i .i64 (-1)))])
  (.r))
  (.k)))
  (.q (.o [.mv 47 (.t 1),
   .bn 48 .add (.t 47) (.c (.i .i64 1)),
   .mv 1 (.t 48)])
  (.q (.q (.p [⟨.mv 49 (.t 0),[],false⟩,
   ⟨.mv 50 (.t 5),[],false⟩,
   ⟨.ia 51 (.t 49) (.t 50) 5,[],true⟩,
   ⟨.fa 52 (.t 51) 4,[],false⟩,
   ⟨.ld 53 (.t 52) none,[],true⟩,
   ⟨.mv 54 (.t 1),[],false⟩,
   ⟨.cl (some 55) 120 [(.t 54)],[2,4],false⟩,
   ⟨.bn 56 .neq (.t 53) (.t 55),[],false⟩])
  (.i (.t 56) (.q (.o [.mv 4 (.c (.i .i64 (-1)))])
  (.r))
  (.k)))
  (.o [.mv 57 (.t 1),
   .bn 58 .add (.t 57) (.c (.i .i64 1)),
   .mv 1 (.t 58)])))))))))))
  (.o [.mv 10 (.t 5),
   .bn 11 .add (.t 10) (.c (.i .i64 1)),
   .mv 5 (.t 11)]))))))
  (.q (.o [.mv 59 (.t 1),
   .mv 4 (.t 59)])
  (.r)))⟩
abbrev JxO:Nat:=51
theorem Jyl:Qi Go.Proofs.Tryz.prog JxC 51=true:=by kernel_rfl
def Jxn:Fn:=⟨2,[(.t 4)],
  .q (.o [.mv 4 (.c (.b false))])
  (.q (.q (.o [.mv 6 (.t 0),
   .cl (some 7) 77 [(.t 6),(.c (.i .i64 4294967295))],
   .un 8 .not (.t 7),
   .mv 9 (.t 8),
   .gd 9 false (.mv 10 (.t 1)),
   .gd 9 false (.cl (some 11) 77 [(.t 10),(.c (.i .i64 4294967295))]),
   .gd 9 false (.un 12 .not (.t 11)),
   .pk 13 (.t 9) (.c (.b true)) (.t 12)])
  (.i (.t 13) (.q (.o [.mv 4 (.c (.b false))])
  (.r))
  (.k)))
  (.q (.o [.mv 14 (.t 1),
   .mv 15 (.t 0),
   .bn 16 .sub (.t 14) (.t 15),
   .bn 17 .add (.t 16) (.c (.i .i64 4294967296)),
   .bn 18 .rem (.t 17) (.c (.i .i64 4294967296)),
   .mv 5 (.t 18)])
  (.q (.o [.mv 19 (.t 5),
   .bn 20 .geq (.t 19) (.c (.i .i64 1)),
   .mv 21 (.t 20),
   .gd 21 true (.mv 22 (.t 5)),
   .gd 21 true (.bn 23 .leq (.t 22) (.c (.i .i64 2147483647))),
   .pk 24 (.t 21) (.t 23) (.c (.b false)),
   .mv 4 (.t 24)])
  (.r))))⟩
abbrev Jxx:Nat:=87
theorem Jx4:Qi Go.Proofs.Tryz.prog Jxn 87=true:=by kernel_rfl
def Jxp:Fn:=⟨1,[(.t 2)],
  .q (.o [.lbx 1 (.t 0),
   .mv 2 (.c (.i .i64 0))])
  (.q (.o [.ld 8 (.t 1) (some 2),
   .fa 9 (.t 1) 0,
   .ld 10 (.t 9) none,
   .cl (some 11) 175 [(.t 8),(.t 10),(.c (.i .i64 6))],
   .mv 7 (.t 11),
   .ex 12 (.t 7) 0,
   .ex 13 (.t 7) 1,
   .lal 3 (.ag [(.s []),(.i .i64 0),(.i .i64 0),.ns]),
   .st (.t 3) (.t 12) 4,
   .mv 4 (.t 13)])
  (.q (.o [.fa 15 (.t 3) 3,
   .ld 16 (.t 15) none,
   .ia 17 (.t 16) (.c (.i .i64 0)) 1,
   .ld 18 (.t 17) none,
   .cl (some 19) 176 [(.t 18)],
   .mv 14 (.t 19),
   .ex 20 (.t 14) 0,
   .ex 21 (.t 14) 1,
   .mv 5 (.t 20),
   .mv 6 (.t 21)])
  (.q (.o [.mv 22 (.t 5),
   .mv 2 (.t 22)])
  (.r))))⟩
abbrev JxG:Nat:=88
theorem Jyb:Qi Go.Proofs.Tryz.prog Jxp 88=true:=by kernel_rfl
def JxD:Fn:=⟨1,[(.t 2)],
  .q (.o [.lbx 1 (.t 0),
   .mv 2 (.c .ns)])
  (.q (.o [.bs 6 (.ag [(.s []),(.i .i64 0),(.i .i64 0),(.i .i64 0),(.s [])]) 5 0 [],
   .mv 3 (.t 6)])
  (.q (.o [.ld 7 (.t 1) (some 2),
   .cl (some 8) 167 [(.t 7)],
   .mv 4 (.t 8)])
  (.q (.q (.o [.mv 5 (.c (.i .i64 0))])
  (.b 0 (.l [3,4,5] (.q (.q (.o [.mv 9 (.t 5),
   .mv 10 (.t 4),
   .ln 11 (.t 10),
   .bn 12 .lss (.t 9) (.t 11)])
  (.i (.t 12) (.k)
  (.x 0)))
  (.q (.b 1 (.q (.o [.mv 15 (.t 4),
   .mv 16 (.t 5),
   .ia 17 (.t 15) (.t 16) 5,
   .fa 18 (.t 17) 1,
   .ld 19 (.t 18) none,
   .bn 20 .neq (.t 19) (.c (.i .i64 6))])
  (.i (.t 20) (.o [.mv 21 (.t 3),
   .mv 22 (.t 4),
   .mv 23 (.t 5),
   .ia 24 (.t 22) (.t 23) 5,
   .ld 25 (.t 24) (some 5),
   .lbs 26 (.ag [(.s []),(.i .i64 0),(.i .i64 0),(.i .i64 0),(.s [])]) 5 1 [(0,(.t 25))],
   .ap 27 (.t 21) (.t 26) 5 56,
   .mv 3 (.t 27)])
  (.k))))
  (.o [.mv 13 (.t 5),
   .bn 14 .add (.t 13) (.c (.i .i64 1)),
   .mv 5 (.t 14)]))))))
  (.q (.o [.mv 28 (.t 3),
   .mv 2 (.t 28)])
  (.r)))))⟩
abbrev JxP:Nat:=89
theorem Jyh:Qi Go.Proofs.Tryz.prog JxD 89=true:=by kernel_rfl
def JxB:Fn:=⟨2,[(.t 4)],
  .q (.o [.mv 4 (.c .ns)])
  (.q (.o [.bs 7 (.ag [(.s []),(.i .i64 0),(.i .i64 0),(.i .i64 0),(.s [])]) 5 0 [],
   .mv 5 (.t 7)])
  (.q (.q (.o [.mv 6 (.c (.i .i64 0))])
  (.b 0 (.l [0,1,5,6] (.q (.q (.o [.mv 8 (.t 6),
   .mv 9 (.t 0),
   .ln 10 (.t 9),
   .bn 11 .lss (.t 8) (.t 10)])
  (.i (.t 11) (.k)
  (.x 0)))
  (.q (.b 1 (.q (.o [.mv 14 (.t 1),
   .mv 15 (.t 0),
   .mv 16 (.t 6),
   .ia 17 (.t 15) (.t 16) 5,
   .ld 18 (.t 17) (some 5),
   .cl (some 19) 177 [(.t 14),(.t 18)],
   .bn 20 .lss (.t 19) (.c (.i .i64 0))])
  (.i (.t 20) (.o [.mv 21 (.t 5),
   .mv 22 (.t 0),
   .mv 23 (.t 6),
   .ia 24 (.t 22) (.t 23) 5,
   .ld 25 (.t 24) (some 5),
   .lbs 26 (.ag [(.s []),(.i .i64 0),(.i .i64 0),(.i .i64 0),(.s [])]) 5 1 [(0,(.t 25))],
   .ap 27 (.t 21) (.t 26) 5 56,
   .mv 5 (.t 27)])
  (.k))))
  (.o [.mv 12 (.t 6),
   .bn 13 .add (.t 12) (.c (.i .i64 1)),
   .mv 6 (.t 13)]))))))
  (.q (.o [.mv 28 (.t 5),
   .mv 4 (.t 28)])
  (.r))))⟩
abbrev JxR:Nat:=91
theorem Jyg:Qi Go.Proofs.Tryz.prog JxB 91=true:=by kernel_rfl
def Jxm:Fn:=⟨2,[(.t 4)],
  .q (.o [.mv 4 (.c (.b false))])
  (.q (.o [.mv 5 (.t 0),
   .cl (some 6) 119 [(.t 5)],
   .mv 7 (.t 6),
   .gd 7 true (.mv 8 (.t 1)),
   .gd 7 true (.cl (some 9) 119 [(.t 8)]),
   .pk 10 (.t 7) (.t 9) (.c (.b false)),
   .mv 11 (.t 10),
   .gd 11 true (.mv 12 (.t 1)),
   .gd 11 true (.mv 13 (.t 0)),
   .gd 11 true (.bn 14 .sub (.t 12) (.t 13)),
   .gd 11 true (.bn 15 .and (.t 14) (.c (.i .i64 4294967295))),
   .gd 11 true (.cl (some 16) 82 [(.t 15),(.c (.i .i64 1)),(.c (.i .i64 2147483647))]),
   .pk 17 (.t 11) (.t 16) (.c (.b false)),
   .mv 4 (.t 17)])
  (.r))⟩
abbrev Jxw:Nat:=92
theorem Jx5:Qi Go.Proofs.Tryz.prog Jxm 92=true:=by kernel_rfl
def Jxl:Fn:=⟨1,[(.t 2)],
  .q (.o [.lbx 1 (.t 0),
   .mv 2 (.c (.i .i64 0))])
  (.q (.o [.ld 8 (.t 1) (some 2),
   .cl (some 9) 94 [(.t 8)],
   .mv 7 (.t 9),
   .ex 10 (.t 7) 0,
   .ex 11 (.t 7) 1,
   .lal 3 (.ag [(.s []),(.i .i64 0),(.i .i64 0),(.i .i64 0),(.s [])]),
   .st (.t 3) (.t 10) 5,
   .mv 4 (.t 11)])
  (.q (.o [.fa 13 (.t 3) 4,
   .ld 14 (.t 13) none,
   .cl (some 15) 109 [(.t 14)],
   .mv 12 (.t 15),
   .ex 16 (.t 12) 0,
   .ex 17 (.t 12) 1,
   .mv 5 (.t 16),
   .mv 6 (.t 17)])
  (.q (.o [.mv 18 (.t 5),
   .mv 2 (.t 18)])
  (.r))))⟩
abbrev Jxv:Nat:=93
theorem Jx6:Qi Go.Proofs.Tryz.prog Jxl 93=true:=by kernel_rfl
def JxA:Fn:=⟨2,[(.t 4)],
  .q (.o [.mv 4 (.c .ns)])
  (.q (.o [.mkm 11,
   .mv 5 (.t 11)])
  (.q (.q (.o [.mv 12 (.t 1),
   .ln 13 (.t 12),
   .mv 14 (.c (.i .i64 0))])
  (.b 0 (.l [0,5,12,13,14] (.q (.o [.bn 15 .lss (.t 14) (.t 13)])
  (.q (.i (.t 15) (.k)
  (.x 0))
  (.q (.b 1 (.q (.o [.ia 16 (.t 12) (.t 14) 5,
   .ld 17 (.t 16) (some 5),
   .lal 7 (.ag [(.s []),(.i .i64 0),(.i .i64 0),(.i .i64 0),(.s [])]),
   .st (.t 7) (.t 17) 5])
  (.o [.mv 18 (.t 5),
   .ld 19 (.t 7) (some 5),
   .mu (.t 18) (.t 19) (.c (.b true)) [.s,(.i .i64),(.i .i64),(.i .i64),.s]])))
  (.o [.bn 20 .add (.t 14) (.c (.i .i64 1)),
   .mv 14 (.t 20)])))))))
  (.q (.o [.mv 8 (.c .ns)])
  (.q (.q (.o [.mv 21 (.t 0),
   .ln 22 (.t 21),
   .mv 23 (.c (.i .i64 0))])
  (.b 2 (.l [5,8,21,22,23] (.q (.o [.bn 24 .lss (.t 23) (.t 22)])
  (.q (.i (.t 24) (.k)
  (.x 2))
  (.q (.b 3 (.q (.o [.ia 25 (.t 21) (.t 23) 5,
   .ld 26 (.t 25) (some 5),
   .lal 10 (.ag [(.s []),(.i .i64 0),(.i .i64 0),(.i .i64 0),(.s [])]),
   .st (.t 10) (.t 26) 5])
  (.q (.o [.mv 27 (.t 5),
   .ld 28 (.t 10) (some 5),
   .lk 29 (.t 27) (.t 28) (.b false) [.s,(.i .i64),(.i .i64),(.i .i64),.s] false,
   .un 30 .not (.t 29)])
  (.i (.t 30) (.o [.mv 31 (.t 8),
   .ld 32 (.t 10) (some 5),
   .lbs 33 (.ag [(.s []),(.i .i64 0),(.i .i64 0),(.i .i64 0),(.s [])]) 5 1 [(0,(.t 32))],
   .ap 34 (.t 31) (.t 33) 5 56,
   .mv 8 (.t 34)])
  (.k)))))
  (.o [.bn 35 .add (.t 23) (.c (.i .i64 1)),
   .mv 23 (.t 35)])))))))
  (.q (.o [.mv 36 (.t 8),
   .mv 4 (.t 36)])
  (.r))))))⟩
abbrev JxN:Nat:=95
theorem Jyi:Qi Go.Proofs.Tryz.prog JxA 95=true:=by kernel_rfl
def JxJ:Fn:=⟨1,[(.t 2),(.t 3)],
  .q (.o [.mv 2 (.c (.i .i64 0)),
   .mv 3 (.c (.i .i64 0))])
  (.q (.q (.o [.mv 4 (.t 0),
   .cl (some 5) 106 [(.c (.i .i64 6)),(.t 4)],
   .bn 6 .neq (.t 5) (.c (.i .i64 0))])
  (.i (.t 6) (.q (.o [.mv 2 (.c (.i .i64 0)),
   .mv 3 (.c (.i .i64 7))])
  (.r))
  (.k)))
  (.q (.o [.mv 7 (.t 0),
   .mv 8 (.t 0),
   .lns 9 (.t 8),
   .bn 10 .sub (.t 9) (.c (.i .i64 20)),
   .ss 11 (.t 7) (some (.t 10)) none,
   .cl (some 12) 173 [(.t 11)],
   .mv 2 (.t 12),
   .mv 3 (.c (.i .i64 0))])
  (.r)))⟩
abbrev JxT:Nat:=109
theorem Jyr:Qi Go.Proofs.Tryz.prog JxJ 109=true:=by kernel_rfl
def Jxt:Fn:=⟨1,[(.t 2)],
  .q (.o [.mv 2 (.c (.b false))])
  (.q (.o [.mv 3 (.t 0),
   .cl (some 4) 82 [(.t 3),(.c (.i .i64 0)),(.c (.i .i64 4294967295))],
   .mv 2 (.t 4)])
  (.r))⟩
abbrev JxK:Nat:=119
theorem Jye:Qi Go.Proofs.Tryz.prog Jxt 119=true:=by kernel_rfl
def JxI:Fn:=⟨1,[(.t 2),(.t 3)],
  .q (.o [.mv 2 (.c (.i .i64 0)),
   .mv 3 (.c (.i .i64 0))])
  (.q (.q (.o [.mv 4 (.t 0),
   .cl (some 5) 248 [(.c (.i .i64 6)),(.t 4)],
   .bn 6 .neq (.t 5) (.c (.i .i64 0))])
  (.i (.t 6) (.q (.o [.mv 2 (.c (.i .i64 0)),
   .mv 3 (.c (.i .i64 7))])
  (.r))
  (.k)))
  (.q (.o [.mv 7 (.t 0),
   .mv 8 (.t 0),
   .lns 9 (.t 8),
   .bn 10 .sub (.t 9) (.c (.i .i64 20)),
   .mv 11 (.t 0),
   .lns 12 (.t 11),
   .bn 13 .sub (.t 12) (.c (.i .i64 16)),
   .ss 14 (.t 7) (some (.t 10)) (some (.t 13)),
   .cl (some 15) 170 [(.t 14)],
   .mv 2 (.t 15),
   .mv 3 (.c (.i .i64 0))])
  (.r)))⟩
abbrev JxS:Nat:=176
theorem Jys:Qi Go.Proofs.Tryz.prog JxI 176=true:=by kernel_rfl
def Jxu:Fn:=⟨2,[(.t 4)],
  .q (.o [.lbx 3 (.t 1),
   .mv 4 (.c (.i .i64 0))])
  (.q (.q (.o [.mv 5 (.c (.i .i64 0))])
  (.b 0 (.l [0,3,5] (.q (.q (.o [.mv 6 (.t 5),
   .mv 7 (.t 0),
   .ln 8 (.t 7),
   .bn 9 .lss (.t 6) (.t 8)])
  (.i (.t 9) (.k)
  (.x 0)))
  (.q (.b 1 (.q (.p [⟨.mv 12 (.t 0),[],false⟩,
   ⟨.mv 13 (.t 5),[],false⟩,
   ⟨.ia 14 (.t 12) (.t 13) 5,[],false⟩,
   ⟨.ld 15 (.t 14) (some 5),[],false⟩,
   ⟨.ld 16 (.t 3) (some 5),[],false⟩,
   ⟨.eqa 17 false [.s,(.i .i64),(.i .i64),(.i .i64),.s] (.t 15) (.t 16),[],false⟩])
  (.i (.t 17) (.q (.o [.mv 18 (.t 5),
   .mv 4 (.t 18)])
  (.r))
  (.k))))
  (.o [.mv 10 (.t 5),
   .bn 11 .add (.t 10) (.c (.i .i64 1)),
   .mv 5 (.t 11)]))))))
  (.q (.o [.mv 4 (.c (.i .i64 (-1)))])
  (.r)))⟩
abbrev JxH:Nat:=177
theorem Jyd:Qi Go.Proofs.Tryz.prog Jxu 177=true:=by kernel_rfl
theorem Jqj (k:Nat) (sets:List Qa):mkE k (sets.map fun s=>s.d.length)=k+3*sets.length+Jam sets:=by
 unfold mkE Jam;induction sets with
 | nil=>simp
 | cons s r ih=>simp only [List.map_cons,List.sum_cons,List.length_cons] at ih ⊢;omega
section
variable {H H' H1:AH} {n0 n1:Nat} {zs:AV} {sets:List Qa} {ds:List AV} {ids:List Nat}
theorem ZM.kp (h:ZM H n0 zs sets ds) (hk:Kp ids H H') (hd: ∀ i,i∈Jjf zs ds→ ¬ i∈ids):ZM H' n0 zs sets ds:=h.fr hk.n fun i hi=>hk.at' i (h.lt i hi) (hd i hi)
end
theorem JyR {l m:List AV} {ks:List Ck}:(∃ xs ys,AV.ag l=AV.ag xs∧AV.ag m=AV.ag ys∧ZA xs ks=true∧ZA ys ks=true)=(ZA l ks=true∧ZA m ks=true):=
 propext ⟨fun ⟨_,_,h1,h2,h3,h4⟩=>by cases h1;cases h2;exact ⟨h3,h4⟩,fun ⟨h3,h4⟩=>⟨_,_,rfl,rfl,h3,h4⟩⟩
theorem Jzj (a b:Rr):(decide (a.o=b.o) && (decide (a.t=b.t) && (decide (a.c=b.c) && (decide (a.ttl=b.ttl) &&decide (a.d=b.d)))))=decide (a=b):=by
 simp only [Rr.eq_iff,Bool.decide_and]
section
variable {C:Tab}
def Jyw (C:Tab) (f:Nat):Prop:= ∀ (a:AV) (xs:List Rr) (r:Rr) (H:AH),Sx H eR a xs→xs.length≤1048576→ ∃ v H',C f [a,eR.v r] H=some (v,H')∧ ∃ n:Int,v= .i .i64 n∧H'=H∧(n < 0)= ¬ r∈xs
def Jyn (C:Tab) (f:Nat):Prop:= ∀ (a b:AV) (xs ys:List Rr) (H:AH),Sx H eR a xs→Sx H eR b ys→xs.length≤1048576→ys.length≤1048576→ ∃ v H',C f [a,b] H=some (v,H')∧Ext H H'∧Mx H' eR v (JxM xs ys)∧ ∀ j,j∈idA v→H.n≤j
def Jyv (C:Tab) (f:Nat):Prop:= ∀ (z:Zn) (zs:AV) (ds:List AV) (H:AH),ZS H zs z.s ds→SzZ z→z.s.length≤500→Jam z.s≤500→ ∃ v H',C f [.ag [.s z.a,zs]] H=some (v,H')∧Ext H H'∧Mx H' eR v (Jxy z)∧ ∀ j,j∈idA v→H.n≤j
def JyA (C:Tab) (f:Nat):Prop:= ∀ (d:List UInt8) (H:AH),JR H→d.length≤1048576→ ∃ v H',C f [.s d] H=some (v,H')∧v= .tp [.i .i64 (JyN d).1,.i .i64 (JyN d).2]∧Ext H H'
def Jym (C:Tab) (f:Nat):Prop:= ∀ (z:Zn) (zs:AV) (ds:List AV) (H:AH) (o:List UInt8) (ttl:Int) (d:List UInt8),JR H→ZS H zs z.s ds→SzZ z→JcR z o ttl d→z.s.length≤500→Jam z.s≤500→ ∃ v H',C f [.ag [.s z.a,zs]] H=some (v,H')∧v= .i .i64 (Jyj d:Nat)∧Ext H H'
def JyB (C:Tab) (f:Nat):Prop:= ∀ (a b:Int) (H:AH),-9223372036854775808≤a→a≤9223372036854775807→ -9223372036854775808≤b→b≤9223372036854775807→C f [.i .i64 a,.i .i64 b] H=some (.b (Jx2 a b),H)
theorem Jy1 {a:AV} {xs:List Rr} {r:Rr} {H:AH} (h:Sx H eR a xs) (hn:xs.length≤1048576):Jt C Jxu [a,eR.v r] H fun v H'=> ∃ n:Int,v= .i .i64 n∧H'=H∧(n < 0)= ¬ r∈xs:=by
 unfold Jt Jxu;obtain ⟨l1,l2⟩:=h.len;rw [JcE];simp -implicitDefEqProofs only [bU,reduceCtorEq,Ja,bT,bV,Ja]
 refine Jl (fun m e M=> ∃ (i:Nat) (L0:List Lv) (g:Nat),i≤xs.length∧m=xs.length-i∧look e 0=a∧look e 3= .la 3 0 0 0∧look e 5= .i .i64 i∧M=⟨L0,g,H⟩∧JJ [0,3,5] L0=[⟨3,0,0,[.ag [.s r.o,.i .i64 r.t,.i .i64 r.c,.i .i64 r.ttl,.s r.d]]⟩]∧ ∀ j (hj:j < xs.length),j < i→xs[j] ≠r) ?_ (n:=xs.length)
  ⟨0,_,_,by omega,by omega,rfl,rfl,rfl,rfl,rfl,fun j _ hj=>by omega⟩
 rintro m e M ⟨i,L0,g,hi,rfl,q0,q3,q5,rfl,hL0,hp⟩;by_cases h1:(i:Int) < xs.length
 ·have hil:i < xs.length:=by omega
  obtain ⟨b1,b2,b3,b4⟩:=Sx.at' h hil;rw [show eR.z=5 from rfl] at b1 b3 b4
  rw [JcE] at b4;have w5:IntKind.i64.wrap ((i:Int)+1)=((i+1:Nat):Int):=by rw [w64 (by omega) (by omega)];rfl
  have bd:xs.length- (i+1) < xs.length-i:=by omega
  by_cases he:xs[i]=r
  ·rw [he] at b4
   simp -implicitDefEqProofs only [bU,Jc,reduceCtorEq,Ja,bT,bV,Ja,q0,q3,q5,hL0,l1,l2,h1,Jj,b1,b2,b3,b4,JyR,ZA,AV.isCk,AV.cells,JW,ZF,beq_self_eq_true,Bool.bne_false,Jr,rsC,rsV,Js];exact ⟨_,rfl,propext ⟨fun hlt=>absurd hlt (by omega),fun hm=>absurd (he▸List.getElem_mem hil) hm⟩⟩
  ·have hq:=Jzj xs[i] r
   rw [decide_eq_false he] at hq;simp -implicitDefEqProofs only [bU,Jc,reduceCtorEq,Ja,bT,bV,Ja,q0,q3,q5,hL0,l1,l2,h1,Jj,b1,b2,b3,b4,JyR,ZA,AV.isCk,AV.cells,JW,ZF,beq_self_eq_true,hq,w5];refine ⟨_,bd,i+1,_,_,hil,rfl,rfl,rfl,rfl,fun j hj hji=> ?_⟩
   by_cases e:j=i
   ·subst e;exact he
   ·exact hp j hj (by omega)
 ·have hil:i=xs.length:=by omega
  subst hil;simp -implicitDefEqProofs only [bU,Jc,reduceCtorEq,bT,q0,q3,q5,hL0,l1,l2,h1,Jr,rsC,rsV,Js];refine ⟨_,rfl,propext ⟨fun _ hm=> ?_,fun _=>by decide⟩⟩
  obtain ⟨j,hj,e⟩:=List.mem_iff_getElem.1 hm;exact hp j hj hj e
theorem JyZ {a b:AV} {xs ys:List Rr} {H:AH} (hC:Jyw C JxH) (ha:Sx H eR a xs) (hb:Sx H eR b ys) (hn:xs.length≤1048576) (hm:ys.length≤1048576):
  Jt C JxB [a,b] H fun v H'=>Ext H H'∧Mx H' eR v (JxM xs ys)∧ ∀ j,j∈idA v→H.n≤j:=by
 unfold Jt JxB;obtain ⟨l1,l2⟩:=ha.len;have ao:=ha.out;have bo:=hb.out;have hm0:Mx (H.new (.arr true 0 5 [])) eR (.sl H.n 0 0) []:= .own (by simp) QD
 simp -implicitDefEqProofs only [bU,Jc,reduceCtorEq,Ja,bT,bV,Ja,JE,JQ,List.replicate]
 refine Jl (fun m e M=> ∃ (i:Nat) (o:AV) (H':AH) (L0:List Lv) (g:Nat),i≤xs.length∧m=xs.length-i∧look e 0=a∧look e 1=b∧look e 5=o∧look e 6= .i .i64 i∧M=⟨L0,g,H'⟩∧JJ [0,1,5,6] L0=[]∧Ext H H'∧Mx H' eR o (JxM (xs.take i) ys)∧ ∀ j,j∈idA o→H.n≤j) ?_ (n:=xs.length)
  ⟨0,.sl H.n 0 0,_,_,_,by omega,by omega,rfl,rfl,rfl,rfl,rfl,rfl,.new _ _,by simpa [JxM] using hm0,fun j hj=>by simp only [idA,List.mem_singleton] at hj;omega⟩
 rintro m e M ⟨i,o,H',L0,g,hi,rfl,q0,q1,q5,q6,rfl,hL0,he,hmm,hid⟩;have oO:=(Mn.sl hmm).out;by_cases h1:(i:Int) < xs.length
 ·have hil:i < xs.length:=by omega
  obtain ⟨b1,b2,b3,b4⟩:=Sx.at' (Sl.ext ha he) hil;rw [show eR.z=5 from rfl] at b1 b3 b4
  obtain ⟨_,Hx,k1,n,rfl,hx,hnn⟩:=hC b ys xs[i] H' (Sl.ext hb he) hm;rw [hx] at k1;rw [JcE] at b4 k1;have w5:IntKind.i64.wrap ((i:Int)+1)=((i+1:Nat):Int):=by rw [w64 (by omega) (by omega)];rfl
  have bd:xs.length- (i+1) < xs.length-i:=by omega
  have hlen:(JxM (xs.take i) ys).length≤i:=by
   have:=List.length_filter_le (fun r=>decide (¬ r∈ys)) (xs.take i)
   unfold JxM;simp only [List.length_take] at this;omega
  have hsn:JxM (xs.take (i+1)) ys=JxM (xs.take i) ys++(if xs[i]∈ys then [] else [xs[i]]):=by
   unfold JxM;rw [List.take_succ_eq_append_getElem hil,List.filter_append];by_cases hy:xs[i]∈ys<;>simp [hy]
  by_cases hy:xs[i]∈ys
  ·have hn0:(n < 0)=False:=by rw [hnn];exact eq_false (fun h=>h hy)
   simp -implicitDefEqProofs only [bU,Jc,reduceCtorEq,bT,q0,q1,q5,q6,hL0,l1,l2,h1,Jj,b1,b2,b3,b4,bo,k1,hn0,w5];rw [if_pos hy,List.append_nil] at hsn;exact ⟨_,bd,i+1,o,H',_,_,hil,rfl,rfl,rfl,rfl,rfl,he,by rw [hsn];exact hmm,hid⟩
  ·have hn0:(n < 0)=True:=by rw [hnn];exact eq_true hy
   rw [if_neg hy] at hsn;obtain ⟨p1,o',H2,p2,p3,p4,p5,p6,p7,-,-⟩:=Mn.ap (by':=56) hmm (Qk (t:=26) (g:=g) (x:=eR.v xs[i]) (L:=[]) (H:=H')) (by simp;omega)
   rw [show eR.z=5 from rfl,JcE] at p1 p2 p3
   simp -implicitDefEqProofs only [bU,Jc,reduceCtorEq,Ja,bT,bV,Ja,q0,q1,q5,q6,hL0,l1,l2,h1,Jj,b1,b2,b3,b4,bo,k1,hn0,JE,JQ,List.replicate];simp -implicitDefEqProofs only [bU,p1,p2,p3,w5];refine ⟨_,bd,i+1,o',H2,_,_,hil,rfl,rfl,rfl,rfl,rfl,he.put hid p5 p6,?_,fun j hj=>(p7 j hj).elim (hid j) fun h=>Nat.le_trans he.n h⟩
   rw [hsn];show Mn H2 eR.z o' _
   rw [List.map_append];exact p4
 ·have hil:i=xs.length:=by omega
  subst hil;rw [List.take_length] at hmm;simp -implicitDefEqProofs only [bU,Jc,reduceCtorEq,bT,q0,q1,q5,q6,hL0,l1,l2,h1,oO,Jr,rsC,rsV,Js];exact ⟨he,hmm,hid⟩
theorem Jy2 {z:Zn} {zs:AV} {ds:List AV} {H:AH} (hR:JbM C WX) (h:ZS H zs z.s ds) (hz:SzZ z) (h5:z.s.length≤500) (h6:Jam z.s≤500):
  Jt C JxD [.ag [.s z.a,zs]] H fun v H'=>Ext H H'∧Mx H' eR v (Jxy z)∧ ∀ j,j∈idA v→H.n≤j:=by
 unfold Jt JxD;have zo:=h.row.out;have zc:=h.row.one;have e0:Ext H (H.new (.arr true 0 5 [])):= .new _ _;obtain ⟨v1,H1,k1,e1,m1,i1⟩:=hR z zs ds _ (h.ext e0) hz;have hzr:JeT z=WQ z:=by unfold JeT;rw [if_neg (by omega)]
 rw [hzr] at m1;have hrl:(WQ z).length≤500:=by rw [Jcq];exact h6
 unfold Jxy;generalize WQ z=l at*;obtain ⟨l1,l2⟩:=Sx.len m1.sl;have vO:=(Mn.sl m1).out;have hm0:Mx H1 eR (.sl H.n 0 0) []:=Mn.ext (.own (by simp) QD) e1
 have hid1: ∀ j,j∈idA v1→H.n+1≤j:=fun j hj=>i1 j hj
 simp -implicitDefEqProofs only [bU,Jc,reduceCtorEq,Ja,bT,bV,Ja,k1,JE,JQ,List.replicate]
 refine Jl (fun m e M=> ∃ (i:Nat) (o:AV) (H':AH) (L0:List Lv) (g:Nat),i≤l.length∧m=l.length-i∧look e 3=o∧look e 4=v1∧look e 5= .i .i64 i∧M=⟨L0,g,H'⟩∧JJ [3,4,5] L0=[]∧Ext H H'∧Sx H' eR v1 l∧Mx H' eR o ((l.take i).filter fun r=>decide (r.t≠6))∧(∀ j,j∈idA o→H.n≤j)∧(∀ j,j∈idA o→ ¬ j∈idA v1)) ?_ (n:=l.length)
  ⟨0,.sl H.n 0 0,H1,_,_,by omega,by omega,rfl,rfl,rfl,rfl,rfl,e0.trans e1,m1.sl,by simpa using hm0,fun j hj=>by simp only [idA,List.mem_singleton] at hj;omega,fun j hj hv=>by have:=hid1 j hv;simp only [idA,List.mem_singleton] at hj;omega⟩
 clear k1 hm0 m1 e1;rintro m e M ⟨i,o,H',L0,g,hi,rfl,q3,q4,q5,rfl,hL0,he,hv,hmm,hid,hdj⟩;have oO:=(Mn.sl hmm).out;obtain ⟨l1,l2⟩:=Sx.len hv;by_cases h1:(i:Int) < l.length
 ·have hil:i < l.length:=by omega
  obtain ⟨b1,b2,b3,b4⟩:=Sx.at' hv hil;obtain ⟨f1,f2,f3,f4,f5⟩:=Sx.fdn (z:=5) hv rfl hil (off:=1) (by decide)
  have f5': ∀ (L:List Lv) (g:Nat),ldX ⟨L,g,H'⟩ none (faV 1 (iaV i v1))= .i .i64 l[i].t:=f5;rw [show eR.z=5 from rfl] at b1 b3 b4
  rw [JcE] at b4;have w5:IntKind.i64.wrap ((i:Int)+1)=((i+1:Nat):Int):=by rw [w64 (by omega) (by omega)];rfl
  have bd:l.length- (i+1) < l.length-i:=by omega
  have hlen:((l.take i).filter fun r=>decide (r.t≠6)).length≤i:=by
   have:=List.length_filter_le (fun r:Rr=>decide (r.t≠6)) (l.take i)
   simp only [List.length_take] at this;omega
  have hsn:((l.take (i+1)).filter fun r=>decide (r.t≠6))=((l.take i).filter fun r=>decide (r.t≠6))++(if l[i].t=6 then [] else [l[i]]):=by
   rw [List.take_succ_eq_append_getElem hil,List.filter_append];by_cases hy:l[i].t=6<;>simp [hy]
  by_cases hy:l[i].t=6
  ·have hy':(l[i].t=6)=True:=eq_true hy
   simp -implicitDefEqProofs only [bU,Jc,bT,q3,q4,q5,hL0,l1,l2,h1,Jj,b1,b2,f3,f4,f5',hy',w5];rw [if_pos hy,List.append_nil] at hsn;exact ⟨_,bd,i+1,o,H',_,_,hil,rfl,rfl,rfl,rfl,rfl,he,hv,by rw [hsn];exact hmm,hid,hdj⟩
  ·rw [if_neg hy] at hsn
   obtain ⟨p1,o',H2,p2,p3,p4,p5,p6,p7,-,-⟩:=Mn.ap (by':=56) hmm (Qk (t:=26) (g:=g) (x:=eR.v l[i]) (L:=[]) (H:=H')) (by rw [List.length_map,List.length_singleton];omega)
   rw [show eR.z=5 from rfl,JcE] at p1 p2 p3
   simp -implicitDefEqProofs only [bU,Jc,Ja,bT,bV,Ja,q3,q4,q5,hL0,l1,l2,h1,Jj,b1,b2,b3,b4,f3,f4,f5',hy,JE,JQ,List.replicate];simp -implicitDefEqProofs only [bU,p1,p2,p3,w5];have hkp:Kp (idA o) H' H2:=⟨p5,p6⟩;refine ⟨_,bd,i+1,o',H2,_,_,hil,rfl,rfl,rfl,rfl,rfl,he.put hid p5 p6,hkp.sl hv (fun j hj hj2=>hdj j hj2 hj),?_,fun j hj=>(p7 j hj).elim (hid j) fun h=>Nat.le_trans he.n h,fun j hj hj2=>(p7 j hj).elim (fun h=>hdj j h hj2) fun h=> ?_⟩
   ·rw [hsn]
    show Mn H2 eR.z o' _
    rw [List.map_append];exact p4
   ·have:=Sl.lt hv j hj2
    omega
 ·have hil:i=l.length:=by omega
  subst hil;rw [List.take_length] at hmm;simp -implicitDefEqProofs only [bU,Jc,bT,q3,q4,q5,hL0,l1,l2,h1,oO,Jr,rsC,rsV,Js];exact ⟨he,hmm,hid⟩
theorem Jyq {d:List UInt8} (h:chk 6 d=0):JyN d=(((Jyj d:Nat):Int),0):=by unfold JyN;rw [if_pos h]
theorem Jzo {d:List UInt8} {H:AH} (hK:JjD C WF) (hN:Jgq C ZT) (hl:d.length≤1048576):Jt C JxI [.s d] H fun v H'=>v= .tp [.i .i64 (JyN d).1,.i .i64 (JyN d).2]∧Ext H H':=by
 unfold Jt JxI;have k1:=hK 6 d H (by omega)
 by_cases hc:chk 6 d=0
 ·have h20:=Jko hc
  have hc':(chk 6 d=0)=True:=eq_true hc;have w1:IntKind.i64.wrap ((d.length:Int)-20)=((d.length-20:Nat):Int):=by rw [w64 (by omega) (by omega)];omega
  have w2:IntKind.i64.wrap ((d.length:Int)-16)=((d.length-16:Nat):Int):=by rw [w64 (by omega) (by omega)];omega
  have h4:d.length-16- (d.length-20)=4:=by omega
  have hb:((0:Int)≤((d.length-20:Nat):Int)∧((d.length-20:Nat):Int)≤((d.length-16:Nat):Int)∧((d.length-16:Nat):Int)≤(d.length:Int))=True:=eq_true ⟨by omega,by omega,by omega⟩
  have kn:=hN ((d.drop (d.length-20)).take 4) H (by simp;omega)
  simp -implicitDefEqProofs only [bU,Jc,reduceCtorEq,bT,bV,k1,hc',w1,w2,h4,hb,kn,Jj,Jr,rsC,rsV,Js];rw [Jyq hc];exact ⟨rfl,.refl _⟩
 ·simp -implicitDefEqProofs only [bU,Jc,reduceCtorEq,bT,bV,k1,hc,Jr,rsC,rsV,Js]
  unfold JyN;rw [if_neg hc];exact ⟨rfl,.refl _⟩
theorem JyI {z:Zn} {o:List UInt8} {ttl:Int} {d:List UInt8} (hz:SzZ z) (h:JcR z o ttl d):d.length≤1048576∧chk 6 d=0:=by
 obtain ⟨i,hi,he,-,hc,-⟩:=h;exact ⟨hz.d _ (List.getElem_mem hi) d (by rw [he];simp),hc⟩
theorem Jy7 {z:Zn} {zs:AV} {ds:List AV} {H:AH} {o:List UInt8} {ttl:Int} {d:List UInt8} (hF:JkE C Zk) (hS:JyA C JxS) (hFo:JR H) (h:ZS H zs z.s ds) (hz:SzZ z) (hs:JcR z o ttl d):
  Jt C Jxp [.ag [.s z.a,zs]] H fun v H'=>v= .i .i64 (Jyj d:Nat)∧Ext H H':=by
 unfold Jt Jxp;have zo:=h.row.out;have zc:=h.row.one;obtain ⟨hdl,hch⟩:=JyI hz hs;obtain ⟨_,H1,k1,d',rfl,e1,m1⟩:=hF z zs ds H o ttl d h hz hs;obtain ⟨_,H2,k2,rfl,e2⟩:=hS d H1 (hFo.ext e1) hdl;rw [Jyq hch] at k2;have hg:([d].map AV.s).getD 0 .u= .s d:=rfl;have ia:=fun (L:List Lv) (g:Nat)=>(Mn.sl m1).ia1 (j:=0) (v:= .s d) (by omega) (by simp) (by rfl) L g
 obtain ⟨z1,z2,-⟩:=ia [] 0;have dO:=(Mn.sl m1).out;have dc:=(Mn.sl m1).one;have hz0:Int.toNat (0:Int)=0:=rfl;simp only [sV] at k1;rw [hz0] at ia;simp -implicitDefEqProofs only [bU,Jc,reduceCtorEq,Ja,bT,bV,Ja,k1,k2,z1,z2,ia,hz0,Jr,rsC,rsV,Js];exact e1.trans e2
theorem Jzp {a b:Int} {H:AH} (hI:JtP C Zv) (ha: -9223372036854775808≤a) (ha':a≤9223372036854775807) (hb: -9223372036854775808≤b) (hb':b≤9223372036854775807):Jt C Jxn [.i .i64 a,.i .i64 b] H fun v H'=>H'=H∧v= .b (Jx2 a b):=by
 unfold Jt Jxn;have k1:=hI a 4294967295 H;have k2:=hI b 4294967295 H;by_cases h1:0≤a∧a≤4294967295
 ·rw [decide_eq_true h1] at k1
  by_cases h2:0≤b∧b≤4294967295
  ·rw [decide_eq_true h2] at k2
   have w1:IntKind.i64.wrap (b-a)=b-a:=w64 (by omega) (by omega)
   have w2:IntKind.i64.wrap (b-a+4294967296)=b-a+4294967296:=w64 (by omega) (by omega)
   have w3:(b-a+4294967296).tmod 4294967296=(b-a) % 4294967296:=Jy4 (by omega)
   by_cases h3:1≤(b-a) % 4294967296
   ·by_cases h4:(b-a) % 4294967296≤2147483647
    ·have:Jx2 a b=true:=decide_eq_true ⟨h1.1,h1.2,h2.1,h2.2,h3,h4⟩
     simp -implicitDefEqProofs only [bU,Jc,reduceCtorEq,Ja,bT,bV,Ja,k1,k2,w1,w2,w3,h3,h4,this,Jr,rsC,rsV,Js];decide
    ·have:Jx2 a b=false:=decide_eq_false fun h=>h4 h.2.2.2.2.2
     simp -implicitDefEqProofs only [bU,Jc,reduceCtorEq,Ja,bT,bV,Ja,k1,k2,w1,w2,w3,h3,h4,this,Jr,rsC,rsV,Js];decide
   ·have:Jx2 a b=false:=decide_eq_false fun h=>h3 h.2.2.2.2.1
    simp -implicitDefEqProofs only [bU,Jc,reduceCtorEq,Ja,bT,bV,Ja,k1,k2,w1,w2,w3,h3,this,Jr,rsC,rsV,Js];decide
  ·rw [decide_eq_false h2] at k2
   have:Jx2 a b=false:=decide_eq_false fun h=>h2 ⟨h.2.2.1,h.2.2.2.1⟩
   simp -implicitDefEqProofs only [bU,Jc,reduceCtorEq,Ja,bT,bV,Ja,k1,k2,this,Jr,rsC,rsV,Js]
 ·rw [decide_eq_false h1] at k1
  have:Jx2 a b=false:=decide_eq_false fun h=>h1 ⟨h.1,h.2.1⟩
  simp -implicitDefEqProofs only [bU,Jc,reduceCtorEq,Ja,bT,bV,Ja,k1,this,Jr,rsC,rsV,Js]
end
section
variable {C:Tab}
def Jx3 (C:Tab) (f:Nat):Prop:= ∀ (z:Zn) (zs:AV) (ds:List AV) (H:AH) (o:List UInt8) (ttl:Int) (d:List UInt8),ZS H zs z.s ds→SzZ z→JcR z o ttl d→z.s.length≤500→Jam z.s≤500→ ∃ v H',C f [.ag [.s z.a,zs]] H=some (v,H')∧ ∃ w,v= .tp [eR.v (Jkf o ttl d),w]∧Ext H H'∧Mx H' eR w (Jxy z)∧ ∀ j,j∈idA w→H.n≤j
def JyX (C:Tab) (f:Nat):Prop:= ∀ (a:Int) (H:AH),C f [.i .i64 a] H=some (.b (decide (0≤a∧a≤4294967295)),H)
set_option maxHeartbeats 2000000 in
theorem JyE {z:Zn} {zs:AV} {ds:List AV} {H:AH} {o:List UInt8} {ttl:Int} {d:List UInt8} (hR:JbM C QV) (h:ZS H zs z.s ds) (hz:SzZ z) (hs:JcR z o ttl d) (h5:z.s.length≤500) (h6:Jam z.s≤500):
  Jt C Zt [.ag [.s z.a,zs]] H fun v H'=> ∃ w,v= .tp [eR.v (Jkf o ttl d),w]∧Ext H H'∧Mx H' eR w (Jxy z)∧ ∀ j,j∈idA w→H.n≤j:=by
 unfold Jt Zt;have zo:=h.row.out;have zc:=h.row.one;obtain ⟨v1,H1,k1,e1,m1,i1⟩:=hR z zs ds H h hz;have hzr:JeT z=WQ z:=by unfold JeT;rw [if_neg (by omega)]
 rw [hzr] at m1;have hrl:(WQ z).length≤500:=by rw [Jcq];exact h6
 obtain ⟨r1,r2⟩:=JiN hs;unfold Jxy;generalize WQ z=l at*;obtain ⟨l1,l2⟩:=Sx.len m1.sl;have vO:=(Mn.sl m1).out;simp -implicitDefEqProofs only [bU,Jc,reduceCtorEq,Ja,bT,bV,Ja,k1,l1,l2]
 refine Jl (fun m e M=> ∃ (i:Nat) (w:AV) (cur:Rr) (H':AH) (L0:List Lv) (g:Nat),i≤l.length∧m=l.length-i∧look e 2= .la 2 1 0 0∧look e 4= .la 4 2 0 0∧look e 5=w∧look e 9=v1∧look e 10= .i .i64 l.length∧look e 11= .i .i64 i∧M=⟨L0,g,H'⟩∧JJ [2,4,5,9,10,11] L0=[⟨4,2,0,[.ag [.s cur.o,.i .i64 cur.t,.i .i64 cur.c,.i .i64 cur.ttl,.s cur.d]]⟩,⟨2,1,0,[.ag [.s [],.i .i64 0,.i .i64 0,.i .i64 0,.s []]]⟩]∧Ext H1 H'∧Mx H' eR w ((l.take i).filter fun r=>decide (r.t≠6))∧(∀ j,j∈idA w→H1.n≤j)∧(Jkf o ttl d∈l.take i→cur=Jkf o ttl d)) ?_ (n:=l.length)
  ⟨0,.ns,rrZ,_,_,_,by omega,by omega,rfl,rfl,rfl,rfl,rfl,rfl,rfl,rfl,.refl _,.nil,fun j hj=>by simp [idA] at hj,fun hm=>by simp at hm⟩
 rintro m e M ⟨i,w,cur,H',L0,g,hi,rfl,q2,q4,q5,q9,q10,q11,rfl,hL0,he,hm,hid,hcur⟩;have oO:=(Mn.sl hm).out;by_cases hlt:(i:Int) < l.length
 ·have hil:i < l.length:=by omega
  obtain ⟨b1,b2,b3,b4⟩:=Sx.at' (Sl.ext m1.sl he) hil;rw [show eR.z=5 from rfl] at b1 b3 b4
  rw [JcE] at b4;have w4:IntKind.i64.wrap ((i:Int)+1)=((i+1:Nat):Int):=by rw [w64 (by omega) (by omega)];rfl
  have bd:l.length- (i+1) < l.length-i:=by omega
  have hlen:((l.take i).filter fun r=>decide (r.t≠6)).length≤i:=by
   have:=List.length_filter_le (fun r:Rr=>decide (r.t≠6)) (l.take i)
   simp only [List.length_take] at this;omega
  have hsn:((l.take (i+1)).filter fun r=>decide (r.t≠6))=((l.take i).filter fun r=>decide (r.t≠6))++(if l[i].t=6 then [] else [l[i]]):=by
   rw [List.take_succ_eq_append_getElem hil,List.filter_append];by_cases hy:l[i].t=6<;>simp [hy]
  by_cases ht:l[i].t=6
  ·have hr:=r1 _ (List.getElem_mem hil) ht
   have ht':(l[i].t=6)=True:=eq_true ht;rw [if_pos ht,List.append_nil] at hsn;simp -implicitDefEqProofs only [bU,Jc,Ja,Jb,bT,bV,Ja,Jb,q2,q4,q5,q9,q10,q11,hL0,hlt,Jj,b1,b2,b3,b4,ht',w4];exact ⟨_,bd,i+1,w,l[i],H',_,_,hil,rfl,rfl,rfl,rfl,rfl,he,by rw [hsn];exact hm,hid,fun _=>hr⟩
  ·rw [if_neg ht] at hsn
   obtain ⟨p1,w',H2,p2,p3,p4,p5,p6,p7,-,-⟩:=Mn.ap (by':=56) hm (Qk (t:=21) (g:=g+1) (x:=eR.v l[i]) (L:=[⟨7,g,0,[.ag [.s l[i].o,.i .i64 l[i].t,.i .i64 l[i].c,.i .i64 l[i].ttl,.s l[i].d]]⟩,⟨4,2,0,[.ag [.s cur.o,.i .i64 cur.t,.i .i64 cur.c,.i .i64 cur.ttl,.s cur.d]]⟩,⟨2,1,0,[.ag [.s [],.i .i64 0,.i .i64 0,.i .i64 0,.s []]]⟩]) (H:=H')) (by rw [List.length_map,List.length_singleton];omega)
   rw [show eR.z=5 from rfl,JcE] at p1 p2 p3
   simp -implicitDefEqProofs only [bU,Jc,Ja,Jb,bT,bV,Ja,Jb,q2,q4,q5,q9,q10,q11,hL0,hlt,Jj,b1,b2,b3,b4,ht,JE,JQ,List.replicate];simp -implicitDefEqProofs only [bU,p1,p2,p3,w4];refine ⟨_,bd,i+1,w',cur,H2,_,_,hil,rfl,rfl,rfl,rfl,rfl,he.put hid p5 p6,?_,fun j hj=>(p7 j hj).elim (hid j) fun h=>Nat.le_trans he.n h,fun hm2=>hcur ?_⟩
   ·rw [hsn]
    show Mn H2 eR.z w' _
    rw [List.map_append];exact p4
   ·rw [List.take_succ_eq_append_getElem hil] at hm2
    rcases List.mem_append.1 hm2 with hm2 | hm2
    ·exact hm2
    ·rw [List.mem_singleton] at hm2
     exact absurd (by rw [←hm2];rfl) ht
 ·have hil:i=l.length:=by omega
  subst hil;rw [List.take_length] at hcur hm;have hc:=hcur r2;subst hc;simp -implicitDefEqProofs only [bU,Jc,Ja,bT,bV,Ja,q2,q4,q5,q9,q10,q11,hL0,hlt,oO,Jr,rsC,rsV,Js];exact ⟨w,rfl,e1.trans he,hm,fun j hj=>Nat.le_trans e1.n (hid j hj)⟩
set_option maxHeartbeats 2000000 in
theorem JyC {a b:AV} {xs ys:List Rr} {H:AH} (ha:Sx H eR a xs) (hb:Sx H eR b ys) (hn:xs.length≤1048576) (hm:ys.length≤1048576):
  Jt C JxA [a,b] H fun v H'=>Ext H H'∧Mx H' eR v (JxM xs ys)∧ ∀ j,j∈idA v→H.n≤j:=by
 unfold Jt JxA;obtain ⟨l1,l2⟩:=ha.len;obtain ⟨l3,l4⟩:=hb.len;have ao:=ha.out;have bo:=hb.out;have e0:Ext H (H.new (.map true [])):= .new _ _;simp -implicitDefEqProofs only [bU,Jc,reduceCtorEq,Ja,bT,bV,Ja,l3,l4]
 refine Jl (fun m e M=> ∃ (i:Nat) (H':AH) (lm:List (Rr×Bool)) (L0:List Lv) (g:Nat),i≤ys.length∧m=ys.length-i∧look e 0=a∧look e 5= .mp H.n∧look e 12=b∧look e 13= .i .i64 ys.length∧look e 14= .i .i64 i∧M=⟨L0,g,H'⟩∧JJ [0,5,12,13,14] L0=[]∧Ext H H'∧H.n < H'.n∧H'.at' H.n= .map true (JaM kR AV.b lm)∧ ∀ r,Q8 lm r=if r∈ys.take i then some true else none) ?_ (n:=ys.length)
  ⟨0,_,[],_,_,by omega,by omega,rfl,rfl,rfl,rfl,rfl,rfl,rfl,e0,by simp,QD,fun r=>by simp [Jef]⟩
 rintro m e M ⟨i,H',lm,L0,g,hi,rfl,q0,q5,q12,q13,q14,rfl,hL0,he,hlt',hmp,hget⟩;by_cases h1:(i:Int) < ys.length
 ·have hil:i < ys.length:=by omega
  obtain ⟨b1,b2,b3,b4⟩:=Sx.at' (Sl.ext hb he) hil;rw [show eR.z=5 from rfl] at b1 b3 b4
  obtain ⟨u1,u2,u3⟩:=JtA (E:=kR) (ev:=AV.b) hmp ys[i] true;have u2':Jby [.s,.i .i64,.i .i64,.i .i64,.s] (Yq H' (.mp H.n)) (.ag [.s ys[i].o,.i .i64 ys[i].t,.i .i64 ys[i].c,.i .i64 ys[i].ttl,.s ys[i].d]):=u2;have u3': ∀ (L:List Lv) (g:Nat),Jfd ⟨L,g,H'⟩ (Jax (Yq H' (.mp H.n)) (.ag [.s ys[i].o,.i .i64 ys[i].t,.i .i64 ys[i].c,.i .i64 ys[i].ttl,.s ys[i].d]) (.b true)) (.mp H.n)=⟨L,g,H'.set H.n (.map true (JaM kR AV.b (Z4 lm ys[i] true)))⟩:=u3;rw [JcE] at b4;have w5:IntKind.i64.wrap ((i:Int)+1)=((i+1:Nat):Int):=by rw [w64 (by omega) (by omega)];rfl
  have bd:ys.length- (i+1) < ys.length-i:=by omega
  simp -implicitDefEqProofs only [bU,Jc,reduceCtorEq,Ja,bT,bV,Ja,q0,q5,q12,q13,q14,hL0,h1,Jj,b1,b2,b3,b4,u1,u2',u3',w5];refine ⟨_,bd,i+1,_,Z4 lm ys[i] true,_,_,hil,rfl,rfl,rfl,rfl,⟨he.n,fun j hj=>by rw [XQ (by omega)];exact he.at' j hj⟩,hlt',Z9,fun r=> ?_⟩
  rw [JaI,hget,List.take_succ_eq_append_getElem hil];by_cases hr:ys[i]=r
  ·subst hr
   rw [if_pos rfl,if_pos (List.mem_append_right _ (List.mem_singleton.2 rfl))]
  ·have hm2:(r∈ys.take i++[ys[i]])↔r∈ys.take i:=by
    rw [List.mem_append,List.mem_singleton];exact ⟨fun h=>h.elim id fun h=>absurd h.symm hr,.inl⟩
   rw [if_neg hr];by_cases hy:r∈ys.take i
   ·rw [if_pos hy,if_pos (hm2.2 hy)]
   ·rw [if_neg hy,if_neg fun h=>hy (hm2.1 h)]
 ·have hil:i=ys.length:=by omega
  subst hil;rw [List.take_length] at hget;obtain ⟨l1,l2⟩:=(Sl.ext ha he).len;rw [List.length_map] at l1;simp -implicitDefEqProofs only [bU,Jc,reduceCtorEq,bT,q0,q5,q12,q13,q14,hL0,h1,l1,l2]
  refine Jl (fun m e M=> ∃ (i:Nat) (o:AV) (H2:AH) (L0:List Lv) (g:Nat),i≤xs.length∧m=xs.length-i∧look e 5= .mp H.n∧look e 8=o∧look e 21=a∧look e 22= .i .i64 xs.length∧look e 23= .i .i64 i∧M=⟨L0,g,H2⟩∧JJ [5,8,21,22,23] L0=[]∧Ext H H2∧Ext H' H2∧Mx H2 eR o (JxM (xs.take i) ys)∧ ∀ j,j∈idA o→H'.n≤j) ?_ (n:=xs.length)
   ⟨0,.ns,H',_,_,by omega,by omega,rfl,rfl,rfl,rfl,rfl,rfl,rfl,he,.refl _,by unfold JxM;rw [List.take_zero];exact Mn.nil,fun j hj=>by simp [idA] at hj⟩
  rintro m e M ⟨i,o,H2,L0,g,hi,rfl,q5,q8,q21,q22,q23,rfl,hL0,he2,he3,hmm,hid⟩;have oO:=(Mn.sl hmm).out;by_cases h1:(i:Int) < xs.length
  ·have hil:i < xs.length:=by omega
   obtain ⟨b1,b2,b3,b4⟩:=Sx.at' (Sl.ext ha he2) hil;rw [show eR.z=5 from rfl] at b1 b3 b4
   have hmp2:H2.at' H.n= .map true (JaM kR AV.b lm):=by rw [he3.at' _ hlt'];exact hmp
   obtain ⟨u1,u2,u3⟩:=Jqs hmp2 xs[i];rw [hget] at u3;have u2':Jby [.s,.i .i64,.i .i64,.i .i64,.s] (Yq H2 (.mp H.n)) (.ag [.s xs[i].o,.i .i64 xs[i].t,.i .i64 xs[i].c,.i .i64 xs[i].ttl,.s xs[i].d]):=u2;have u3':Qf (Yq H2 (.mp H.n)) (.ag [.s xs[i].o,.i .i64 xs[i].t,.i .i64 xs[i].c,.i .i64 xs[i].ttl,.s xs[i].d])=(if xs[i]∈ys then some true else none).map AV.b:=u3
   rw [JcE] at b4;have w5:IntKind.i64.wrap ((i:Int)+1)=((i+1:Nat):Int):=by rw [w64 (by omega) (by omega)];rfl
   have bd:xs.length- (i+1) < xs.length-i:=by omega
   have hlen:(JxM (xs.take i) ys).length≤i:=by
    have:=List.length_filter_le (fun r=>decide (¬ r∈ys)) (xs.take i)
    unfold JxM;simp only [List.length_take] at this;omega
   have hsn:JxM (xs.take (i+1)) ys=JxM (xs.take i) ys++(if xs[i]∈ys then [] else [xs[i]]):=by
    unfold JxM;rw [List.take_succ_eq_append_getElem hil,List.filter_append];by_cases hy:xs[i]∈ys<;>simp [hy]
   by_cases hy:xs[i]∈ys
   ·rw [if_pos hy] at u3'
    rw [if_pos hy,List.append_nil] at hsn;simp -implicitDefEqProofs only [bU,Jc,Ja,bT,bV,Ja,q5,q8,q21,q22,q23,hL0,h1,Jj,b1,b2,b3,b4,u1,u2',u3',Option.map_some,lkV,w5];exact ⟨_,bd,i+1,o,H2,_,_,hil,rfl,rfl,rfl,rfl,rfl,he2,he3,by rw [hsn];exact hmm,hid⟩
   ·rw [if_neg hy] at hsn u3'
    obtain ⟨p1,o',H3,p2,p3,p4,p5,p6,p7,-,-⟩:=Mn.ap (by':=56) hmm (Qk (t:=33) (g:=g+1) (x:=eR.v xs[i]) (L:=[⟨10,g,0,[.ag [.s xs[i].o,.i .i64 xs[i].t,.i .i64 xs[i].c,.i .i64 xs[i].ttl,.s xs[i].d]]⟩]) (H:=H2)) (by simp;omega)
    rw [show eR.z=5 from rfl,JcE] at p1 p2 p3
    simp -implicitDefEqProofs only [bU,Jc,Ja,bT,bV,Ja,q5,q8,q21,q22,q23,hL0,h1,Jj,b1,b2,b3,b4,u1,u2',u3',Option.map_none,lkV,JE,JQ,List.replicate];simp -implicitDefEqProofs only [bU,p1,p2,p3,w5];refine ⟨_,bd,i+1,o',H3,_,_,hil,rfl,rfl,rfl,rfl,rfl,he2.put (fun j hj=>Nat.le_trans he.n (hid j hj)) p5 p6,he3.put hid p5 p6,?_,fun j hj=>(p7 j hj).elim (hid j) fun h=>Nat.le_trans he3.n h⟩
    rw [hsn];show Mn H3 eR.z o' _
    rw [List.map_append];exact p4
  ·have hil:i=xs.length:=by omega
   subst hil;rw [List.take_length] at hmm;simp -implicitDefEqProofs only [bU,Jc,bT,q5,q8,q21,q22,q23,hL0,h1,oO,Jr,rsC,rsV,Js];exact ⟨he2,hmm,fun j hj=>Nat.le_trans he.n (hid j hj)⟩
theorem Jzd {d:List UInt8} {H:AH} (hK:Jc9 C Qg) (hN:JpO C Jbn) (hFo:JR H) (hl:d.length≤1048576):Jt C JxJ [.s d] H fun v H'=>v= .tp [.i .i64 (JyN d).1,.i .i64 (JyN d).2]∧Ext H H':=by
 unfold Jt JxJ;have k1:=hK 6 d H hFo (by omega)
 by_cases hc:chk 6 d=0
 ·have h20:=Jko hc
  have hc':(chk 6 d=0)=True:=eq_true hc;have w1:IntKind.i64.wrap ((d.length:Int)-20)=((d.length-20:Nat):Int):=by rw [w64 (by omega) (by omega)];omega
  have hb:((0:Int)≤((d.length-20:Nat):Int)∧((d.length-20:Nat):Int)≤(d.length:Int))=True:=eq_true ⟨by omega,by omega⟩
  have h8:d.length- (d.length-20)=20:=by omega
  have htk:(d.drop (d.length-20)).take 20=d.drop (d.length-20):=List.take_of_length_le (by simp;omega)
  obtain ⟨_,H2,kn,rfl,e2⟩:=hN (d.drop (d.length-20)) H (by simp;omega)
  simp -implicitDefEqProofs only [bU,Jc,reduceCtorEq,bT,bV,k1,hc',w1,hb,h8,htk,kn,Jj,Jr,rsC,rsV,Js];rw [Jyq hc];exact ⟨rfl,e2⟩
 ·simp -implicitDefEqProofs only [bU,Jc,reduceCtorEq,bT,bV,k1,hc,Jr,rsC,rsV,Js]
  unfold JyN;rw [if_neg hc];exact ⟨rfl,.refl _⟩
theorem Jy0 {z:Zn} {zs:AV} {ds:List AV} {H:AH} {o:List UInt8} {ttl:Int} {d:List UInt8} (hF:Jx3 C Jap) (hS:JyA C JxT) (hFo:JR H) (h:ZS H zs z.s ds) (hz:SzZ z) (hs:JcR z o ttl d) (h5:z.s.length≤500) (h6:Jam z.s≤500):
  Jt C Jxl [.ag [.s z.a,zs]] H fun v H'=>v= .i .i64 (Jyj d:Nat)∧Ext H H':=by
 unfold Jt Jxl;have zo:=h.row.out;have zc:=h.row.one;obtain ⟨hdl,hch⟩:=JyI hz hs;obtain ⟨_,H1,k1,w,rfl,e1,m1,-⟩:=hF z zs ds H o ttl d h hz hs h5 h6;obtain ⟨_,H2,k2,rfl,e2⟩:=hS d H1 (hFo.ext e1) hdl;rw [Jyq hch] at k2;have wO:=(Mn.sl m1).out;rw [Jkf,JcE] at k1;simp -implicitDefEqProofs only [bU,Jc,reduceCtorEq,Ja,bT,bV,Ja,k1,k2,Jr,rsC,rsV,Js];exact e1.trans e2
theorem Jzy {a:Int} {H:AH} (hI:Jch C XP):Jt C Jxt [.i .i64 a] H fun v H'=>H'=H∧v= .b (decide (0≤a∧a≤4294967295)):=by
 unfold Jt Jxt;have k1:=hI a 0 4294967295 H;simp -implicitDefEqProofs only [bU,Jc,reduceCtorEq,bT,bV,k1,Jr,rsC,rsV,Js]
theorem Jzm {a b:Int} {H:AH} (hO:JyX C JxK) (hI:Jch C XP) (ha: -9223372036854775808≤a) (ha':a≤9223372036854775807) (hb: -9223372036854775808≤b) (hb':b≤9223372036854775807):Jt C Jxm [.i .i64 a,.i .i64 b] H fun v H'=>H'=H∧v= .b (Jx2 a b):=by
 unfold Jt Jxm;have k1:=hO a H;have k2:=hO b H;by_cases h1:0≤a∧a≤4294967295
 ·rw [decide_eq_true h1] at k1
  by_cases h2:0≤b∧b≤4294967295
  ·rw [decide_eq_true h2] at k2
   have w1:IntKind.i64.wrap (b-a)=b-a:=w64 (by omega) (by omega)
   have w2:Jqk .and .i64 (b-a) 4294967295=(b-a) % 4294967296:=Jzn (by omega) (by omega)
   have k3:=hI ((b-a) % 4294967296) 1 2147483647 H;have e:Jx2 a b=decide (1≤(b-a) % 4294967296∧(b-a) % 4294967296≤2147483647):=decide_eq_decide.2 ⟨fun h=>h.2.2.2.2,fun h=>⟨h1.1,h1.2,h2.1,h2.2,h⟩⟩
   rw [←e] at k3;simp -implicitDefEqProofs only [bU,Jc,reduceCtorEq,Ja,bT,bV,Ja,k1,k2,w1,w2,k3,Jr,rsC,rsV,Js]
  ·rw [decide_eq_false h2] at k2
   have:Jx2 a b=false:=decide_eq_false fun h=>h2 ⟨h.2.2.1,h.2.2.2.1⟩
   simp -implicitDefEqProofs only [bU,Jc,reduceCtorEq,Ja,bT,bV,Ja,k1,k2,this,Jr,rsC,rsV,Js]
 ·rw [decide_eq_false h1] at k1
  have:Jx2 a b=false:=decide_eq_false fun h=>h1 ⟨h.1,h.2.1⟩
  simp -implicitDefEqProofs only [bU,Jc,reduceCtorEq,Ja,bT,bV,Ja,k1,this,Jr,rsC,rsV,Js]
end
def chV (c:Ch) (d a:AV):AV:= .ag [.s c.old.o,.i .i64 c.old.t,.i .i64 c.old.c,.i .i64 c.old.ttl,.s c.old.d,.s c.new.o,.i .i64 c.new.t,.i .i64 c.new.c,.i .i64 c.new.ttl,.s c.new.d,d,a]
def Jyy (R:Ch×Int) (H:AH) (v:AV) (H':AH):Prop:=Ext H H'∧ ∃ d a,v= .tp [chV R.1 d a,.i .i64 R.2]∧Mx H' eR d R.1.del∧Mx H' eR a R.1.add∧(∀ j,j∈idA d→H.n≤j)∧(∀ j,j∈idA a→H.n≤j)∧ ∀ j,j∈idA d→ ¬ j∈idA a
def Jzs (C:Tab) (f:Nat):Prop:= ∀ (z w:Zn) (zs ws:AV) (ds es:List AV) (H:AH),JR H→ZS H zs z.s ds→ZS H ws w.s es→SzZ z→SzZ w→ ∃ v H',C f [.ag [.s z.a,zs],.ag [.s w.a,ws]] H=some (v,H')∧Jyy (dzF z w) H v H'
theorem Jx9 {z w:Zn} {H H':AH} {v:AV} {c:Int} (h:dzF z w=(ch0,c)) (he:Ext H H') (hv:v= .tp [.ag [.s [],.i .i64 0,.i .i64 0,.i .i64 0,.s [],.s [],.i .i64 0,.i .i64 0,.i .i64 0,.s [],.ns,.ns],.i .i64 c]):Jyy (dzF z w) H v H':=by
 rw [h];exact ⟨he,.ns,.ns,hv,.nil,.nil,fun j hj=>by simp [idA] at hj,fun j hj=>by simp [idA] at hj,fun j hj=>by simp [idA] at hj⟩
theorem Jx1 {z w:Zn} (h: ¬ (ckz z=0∧ckz w=0∧z.a=w.a)):dzF z w=(ch0,32):=by unfold dzF;rw [if_neg h]
theorem Jyz {z:Zn} (hc:ckz z=0):z.s.length≤500∧Jam z.s≤500:=by
 unfold ckz at hc;by_cases h0:500 < z.s.length∨500 < JkI z
 ·rw [if_pos h0] at hc;cases hc
 ·have:JkI z=Jam z.s:=rfl
  omega
theorem JxW (z:Zn):(Jxy z).length≤Jam z.s:=by
 unfold Jxy;refine Nat.le_trans (List.length_filter_le _ _) ?_
 rw [Jcq];exact Nat.le_refl _
section
variable {C:Tab}
set_option maxHeartbeats 4000000 in
theorem Jzw {z w:Zn} {zs ws:AV} {ds es:List AV} {H:AH} (hK:Jrr C Yf) (hL:JyB C Jxx) (hN:Jym C JxG) (hR:Jyv C JxP) (hS:JkS C ZN) (hW:Jyn C JxR) (hFo:JR H)
  (h:ZS H zs z.s ds) (h':ZS H ws w.s es) (hz:SzZ z) (hw:SzZ w):Jt C Jxq [.ag [.s z.a,zs],.ag [.s w.a,ws]] H (Jyy (dzF z w) H):=by
 unfold Jt Jxq;have zo:=h.row.out;have zc:=h.row.one;have wo:=h'.row.out;have wc:=h'.row.one;have k1:=hK z zs ds H h hz;have k2:=hK w ws es H h' hw;by_cases hc:ckz z=0
 ·have hc':(ckz z=0)=True:=eq_true hc
  by_cases hd:ckz w=0
  ·have hd':(ckz w=0)=True:=eq_true hd
   by_cases ha:z.a=w.a
   ·have ha':(z.a=w.a)=True:=eq_true ha
    obtain ⟨o,ttl,d,hs⟩:=Jhf hc;obtain ⟨o',ttl',d',hs'⟩:=Jhf hd;obtain ⟨z5,z6⟩:=Jyz hc;obtain ⟨w5,w6⟩:=Jyz hd;obtain ⟨_,H1,k3,rfl,e1⟩:=hN z zs ds H o ttl d hFo h hz hs z5 z6;obtain ⟨_,H2,k4,rfl,e2⟩:=hN w ws es H1 o' ttl' d' (hFo.ext e1) (h'.ext e1) hw hs' w5 w6;have hl1:=Jyp d;have hl2:=Jyp d';have k5:=hL (Jyj d:Nat) (Jyj d':Nat) H2 (by omega) (by omega) (by omega) (by omega)
    have e12:=e1.trans e2;have f1:=JlC hs;have f2:=JlC hs';by_cases hl:Jx2 (Jyj d:Nat) (Jyj d':Nat)=true
    ·rw [hl] at k5
     obtain ⟨va,H3,k6,e3,m3,i3⟩:=hR z zs ds H2 (h.ext e12) hz z5 z6;obtain ⟨vb,H4,k7,e4,m4,i4⟩:=hR w ws es H3 (h'.ext (e12.trans e3)) hw w5 w6;obtain ⟨_,H5,k8,rfl,e5⟩:=hS z zs ds H4 o ttl d (h.ext ((e12.trans e3).trans e4)) hz hs;obtain ⟨_,H6,k9,rfl,e6⟩:=hS w ws es H5 o' ttl' d' (h'.ext (((e12.trans e3).trans e4).trans e5)) hw hs';have e56:=e5.trans e6;have b1:=JxW z;have b2:=JxW w;have xa:=Sl.ext m3.sl (e4.trans e56);have xb:=Sl.ext m4.sl e56;obtain ⟨vd,H7,ka,e7,m7,i7⟩:=hW va vb (Jxy z) (Jxy w) H6 xa xb (by omega) (by omega)
     obtain ⟨ve,H8,kb,e8,m8,i8⟩:=hW vb va (Jxy w) (Jxy z) H7 (Sl.ext xb e7) (Sl.ext xa e7) (by omega) (by omega)
     have oa:=(Mn.sl m3).out;have ob:=(Mn.sl m4).out;have od:=(Mn.sl m7).out;have oe:=(Mn.sl m8).out;have cd:=(Mn.sl m7).one;have ce:=(Mn.sl m8).one
     have hres:dzF z w=(⟨Jkf o ttl d,Jkf o' ttl' d',JxM (Jxy z) (Jxy w),JxM (Jxy w) (Jxy z)⟩,0):=by
      unfold dzF;rw [if_pos ⟨hc,hd,ha⟩,f1,f2,if_pos hl,Jyo hs,Jyo hs']
     rw [Jkf,JcE] at k8 k9;simp -implicitDefEqProofs only [bU,Jc,reduceCtorEq,Ja,bT,bV,Ja,Jg,Qs,J6,k1,hc',k2,hd',ha',k3,k4,k5,k6,k7,k8,k9,ka,kb,oa,ob,od,oe,cd,ce,JG,JH,List.take,List.drop,Jr,rsC,rsV,Js];rw [hres]
     exact ⟨((((e12.trans e3).trans e4).trans e56).trans e7).trans e8,vd,ve,rfl,Mn.ext m7 e8,m8,fun j hj=>Nat.le_trans (((e12.trans e3).trans e4).trans e56).n (i7 j hj),fun j hj=>Nat.le_trans ((((e12.trans e3).trans e4).trans e56).trans e7).n (i8 j hj),fun j hj hj2=>by
      have:=Mn.lt m7 j hj;have:=i8 j hj2;omega⟩
    ·have hl':Jx2 (Jyj d:Nat) (Jyj d':Nat)=false:=by simpa using hl
     rw [hl'] at k5
     have hres:dzF z w=(ch0,27):=by
      unfold dzF;rw [if_pos ⟨hc,hd,ha⟩,f1,f2,if_neg hl]
     simp -implicitDefEqProofs only [bU,Jc,reduceCtorEq,Ja,bT,bV,Ja,Qs,J6,k1,hc',k2,hd',ha',k3,k4,k5,JG,JH,Jr,rsC,rsV,Js];exact Jx9 hres e12 rfl
   ·simp -implicitDefEqProofs only [bU,Jc,reduceCtorEq,Ja,bT,bV,Ja,k1,hc',k2,hd',ha,JG,JH,Jr,rsC,rsV,Js]
    exact Jx9 (Jx1 fun h=>ha h.2.2) (.refl _) rfl
  ·simp -implicitDefEqProofs only [bU,Jc,reduceCtorEq,Ja,bT,bV,Ja,k1,hc',k2,hd,JG,JH,Jr,rsC,rsV,Js]
   exact Jx9 (Jx1 fun h=>hd h.2.1) (.refl _) rfl
 ·simp -implicitDefEqProofs only [bU,Jc,reduceCtorEq,Ja,bT,bV,Ja,k1,hc,JG,JH,Jr,rsC,rsV,Js]
  exact Jx9 (Jx1 fun h=>hc h.1) (.refl _) rfl
set_option maxHeartbeats 4000000 in
theorem Jzx {z w:Zn} {zs ws:AV} {ds es:List AV} {H:AH} (hK:Jou C Yi) (hL:JyB C Jxw) (hN:Jym C Jxv) (hS:Jx3 C Jap) (hW:Jyn C JxN) (hFo:JR H)
  (h:ZS H zs z.s ds) (h':ZS H ws w.s es) (hz:SzZ z) (hw:SzZ w):Jt C Jxr [.ag [.s z.a,zs],.ag [.s w.a,ws]] H (Jyy (dzF z w) H):=by
 unfold Jt Jxr;have zo:=h.row.out;have zc:=h.row.one;have wo:=h'.row.out;have wc:=h'.row.one;have k1:=hK z zs ds H hFo h hz;have k2:=hK w ws es H hFo h' hw;by_cases hc:ckz z=0
 ·have hc':(ckz z=0)=True:=eq_true hc
  by_cases hd:ckz w=0
  ·have hd':(ckz w=0)=True:=eq_true hd
   by_cases ha:z.a=w.a
   ·have ha':(z.a=w.a)=True:=eq_true ha
    obtain ⟨o,ttl,d,hs⟩:=Jhf hc;obtain ⟨o',ttl',d',hs'⟩:=Jhf hd;obtain ⟨z5,z6⟩:=Jyz hc;obtain ⟨w5,w6⟩:=Jyz hd;obtain ⟨_,H1,k3,rfl,e1⟩:=hN z zs ds H o ttl d hFo h hz hs z5 z6;obtain ⟨_,H2,k4,rfl,e2⟩:=hN w ws es H1 o' ttl' d' (hFo.ext e1) (h'.ext e1) hw hs' w5 w6;have hl1:=Jyp d;have hl2:=Jyp d';have k5:=hL (Jyj d:Nat) (Jyj d':Nat) H2 (by omega) (by omega) (by omega) (by omega)
    have e12:=e1.trans e2;have f1:=JlC hs;have f2:=JlC hs';by_cases hl:Jx2 (Jyj d:Nat) (Jyj d':Nat)=true
    ·rw [hl] at k5
     obtain ⟨_,H3,k6,va,rfl,e3,m3,i3⟩:=hS z zs ds H2 o ttl d (h.ext e12) hz hs z5 z6;obtain ⟨_,H4,k7,vb,rfl,e4,m4,i4⟩:=hS w ws es H3 o' ttl' d' (h'.ext (e12.trans e3)) hw hs' w5 w6;have b1:=JxW z;have b2:=JxW w;have xa:=Sl.ext m3.sl e4;have xb:=m4.sl;obtain ⟨vd,H7,ka,e7,m7,i7⟩:=hW va vb (Jxy z) (Jxy w) H4 xa xb (by omega) (by omega)
     obtain ⟨ve,H8,kb,e8,m8,i8⟩:=hW vb va (Jxy w) (Jxy z) H7 (Sl.ext xb e7) (Sl.ext xa e7) (by omega) (by omega)
     have oa:=(Mn.sl m3).out;have ob:=(Mn.sl m4).out;have od:=(Mn.sl m7).out;have oe:=(Mn.sl m8).out;have cd:=(Mn.sl m7).one;have ce:=(Mn.sl m8).one
     have hres:dzF z w=(⟨Jkf o ttl d,Jkf o' ttl' d',JxM (Jxy z) (Jxy w),JxM (Jxy w) (Jxy z)⟩,0):=by
      unfold dzF;rw [if_pos ⟨hc,hd,ha⟩,f1,f2,if_pos hl,Jyo hs,Jyo hs']
     rw [Jkf,JcE] at k6 k7;simp -implicitDefEqProofs only [bU,Jc,reduceCtorEq,Ja,bT,bV,Ja,Jg,Qs,J6,k1,hc',k2,hd',ha',k3,k4,k5,k6,k7,ka,kb,oa,ob,od,oe,cd,ce,JG,JH,List.take,List.drop,Jr,rsC,rsV,Js];rw [hres]
     exact ⟨(((e12.trans e3).trans e4).trans e7).trans e8,vd,ve,rfl,Mn.ext m7 e8,m8,fun j hj=>Nat.le_trans ((e12.trans e3).trans e4).n (i7 j hj),fun j hj=>Nat.le_trans (((e12.trans e3).trans e4).trans e7).n (i8 j hj),fun j hj hj2=>by
      have:=Mn.lt m7 j hj;have:=i8 j hj2;omega⟩
    ·have hl':Jx2 (Jyj d:Nat) (Jyj d':Nat)=false:=by simpa using hl
     rw [hl'] at k5
     have hres:dzF z w=(ch0,27):=by
      unfold dzF;rw [if_pos ⟨hc,hd,ha⟩,f1,f2,if_neg hl]
     simp -implicitDefEqProofs only [bU,Jc,reduceCtorEq,Ja,bT,bV,Ja,Qs,J6,k1,hc',k2,hd',ha',k3,k4,k5,JG,JH,Jr,rsC,rsV,Js];exact Jx9 hres e12 rfl
   ·simp -implicitDefEqProofs only [bU,Jc,reduceCtorEq,Ja,bT,bV,Ja,k1,hc',k2,hd',ha,JG,JH,Jr,rsC,rsV,Js]
    exact Jx9 (Jx1 fun h=>ha h.2.2) (.refl _) rfl
  ·simp -implicitDefEqProofs only [bU,Jc,reduceCtorEq,Ja,bT,bV,Ja,k1,hc',k2,hd,JG,JH,Jr,rsC,rsV,Js]
   exact Jx9 (Jx1 fun h=>hd h.2.1) (.refl _) rfl
 ·simp -implicitDefEqProofs only [bU,Jc,reduceCtorEq,Ja,bT,bV,Ja,k1,hc,JG,JH,Jr,rsC,rsV,Js]
  exact Jx9 (Jx1 fun h=>hc h.1) (.refl _) rfl
end
section
variable {C:Tab}
set_option maxHeartbeats 2000000 in
theorem JyJ {a:AV} {k c:Nat} {H:AH} (hM:JqR C QJ) (h:Sx H eR a (mks JxX 5 k c)) (hb:k+5*c≤1099511627776):Jt C JxC [a,.i .i64 k] H fun v H'=>v= .i .i64 ((k+5*c:Nat):Int)∧Ext H H':=by
 unfold Jt JxC;simp -implicitDefEqProofs only [bU,Ja];refine Jl (fun n e M=> ∃ (i:Nat) (H':AH) (L:List Lv) (g:Nat),i≤c∧n=c-i∧look e 0=a∧look e 1= .i .i64 ((k+5*i:Nat):Int)∧look e 5= .i .i64 i∧M=⟨L,g,H'⟩∧Ext H H') ?_ (n:=c) ⟨0,_,_,_,by omega,by omega,rfl,rfl,rfl,rfl,.refl _⟩
 rintro n e M ⟨i,H0,L,g,hi,rfl,q0,q1,q5,rfl,hk⟩;obtain ⟨l1,l2⟩:=Sx.len (Sl.ext h hk);rw [Jik] at l1;by_cases hlt:(i:Int) < c
 ·have hil:i < (mks JxX 5 k c).length:=by rw [Jik];omega
  have w9:IntKind.i64.wrap ((i:Int)+1)=((i+1:Nat):Int):=by rw [w64 (by omega) (by omega)];rfl
  obtain ⟨a0,b0,d0,s0,v0⟩:=Sx.fdn (z:=5) (Sl.ext h hk) rfl hil (off:=0) (by decide)
  rw [Jqo] at v0;have v0':=fun (L:List Lv) (g:Nat)=>(v0 L g).trans (show _=AV.s (mt (k+5*i)) from rfl)
  obtain ⟨G0,t0,u0⟩:=hM (k+5*i) H0 (by omega)
  have k0:=hk.trans u0;obtain ⟨a0x,b0x,d0x,s0x,v0x⟩:=Sx.fdn (z:=5) (Sl.ext h k0) rfl hil (off:=0) (by decide)
  rw [Jqo] at v0x;have v0x':=fun (L:List Lv) (g:Nat)=>(v0x L g).trans (show _=AV.s (mt (k+5*i)) from rfl)
  have w0:IntKind.i64.wrap (((k+5*i:Nat):Int)+1)=((k+5*i+1:Nat):Int):=by rw [w64 (by omega) (by omega)];omega
  obtain ⟨a1,b1,d1,s1,v1⟩:=Sx.fdn (z:=5) (Sl.ext h k0) rfl hil (off:=1) (by decide)
  rw [Jqo] at v1;have v1':=fun (L:List Lv) (g:Nat)=>(v1 L g).trans (show _=AV.i .i64 ((k+5*i+1:Nat):Int) from rfl)
  have w1:IntKind.i64.wrap (((k+5*i+1:Nat):Int)+1)=((k+5*i+2:Nat):Int):=by rw [w64 (by omega) (by omega)];omega
  obtain ⟨a2,b2,d2,s2,v2⟩:=Sx.fdn (z:=5) (Sl.ext h k0) rfl hil (off:=2) (by decide)
  rw [Jqo] at v2;have v2':=fun (L:List Lv) (g:Nat)=>(v2 L g).trans (show _=AV.i .i64 ((k+5*i+2:Nat):Int) from rfl)
  have w2:IntKind.i64.wrap (((k+5*i+2:Nat):Int)+1)=((k+5*i+3:Nat):Int):=by rw [w64 (by omega) (by omega)];omega
  obtain ⟨a3,b3,d3,s3,v3⟩:=Sx.fdn (z:=5) (Sl.ext h k0) rfl hil (off:=3) (by decide)
  rw [Jqo] at v3;have v3':=fun (L:List Lv) (g:Nat)=>(v3 L g).trans (show _=AV.i .i64 ((k+5*i+3:Nat):Int) from rfl)
  have w3:IntKind.i64.wrap (((k+5*i+3:Nat):Int)+1)=((k+5*i+4:Nat):Int):=by rw [w64 (by omega) (by omega)];omega
  obtain ⟨a4,b4,d4,s4,v4⟩:=Sx.fdn (z:=5) (Sl.ext h k0) rfl hil (off:=4) (by decide)
  rw [Jqo] at v4;have v4':=fun (L:List Lv) (g:Nat)=>(v4 L g).trans (show _=AV.s (mt (k+5*i+4)) from rfl)
  obtain ⟨G4,t4,u4⟩:=hM (k+5*i+4) G0 (by omega)
  have k4:=k0.trans u4;obtain ⟨a4x,b4x,d4x,s4x,v4x⟩:=Sx.fdn (z:=5) (Sl.ext h k4) rfl hil (off:=4) (by decide)
  rw [Jqo] at v4x;have v4x':=fun (L:List Lv) (g:Nat)=>(v4x L g).trans (show _=AV.s (mt (k+5*i+4)) from rfl)
  have w4:IntKind.i64.wrap (((k+5*i+4:Nat):Int)+1)=((k+5*i+5:Nat):Int):=by rw [w64 (by omega) (by omega)];omega
  simp -implicitDefEqProofs only [bU,Jc,reduceCtorEq,Ja,bT,Qs,J6,q0,q1,q5,l1,l2,hlt,w9,Jj,a0,b0,d0,s0,v0',t0,a0x,s0x,v0x',w0,s1,v1',w1,s2,v2',w2,s3,v3',w3,s4,v4',t4,a4x,s4x,v4x',w4];refine ⟨c- (i+1),by omega,i+1,G4,_,_,by omega,rfl,by rw [show k+5*(i+1)=k+5*i+5 by omega],rfl,rfl,k4⟩
 ·have hil:i=c:=by omega
  subst hil;simp -implicitDefEqProofs only [bU,Jc,reduceCtorEq,bT,q0,q1,q5,l1,l2,hlt,Jr,rsC,rsV,Js];exact hk
def JyS (C:Tab) (f:Nat):Prop:= ∀ (c:Ch) (d a d' a':AV) (H:AH),Sx H eR d c.del→Sx H eR a c.add→Sx H eR d' c.del→Sx H eR a' c.add→c.del.length≤1048576→c.add.length≤1048576→C f [chV c d a,chV c d' a'] H=some (.b true,H)
def JyQ (C:Tab) (f:Nat):Prop:= ∀ (c:Ch) (d a:AV) (k:Nat) (H:AH),Mx H eR d c.del→Mx H eR a c.add→(∀ j,j∈idA d→ ¬ j∈idA a)→k+5*c.del.length+5*c.add.length≤1099511627776→ ∃ v H',C f [chV c d a,.i .i64 k] H=some (v,H')∧v= .i .i64 ((k+5*c.del.length+5*c.add.length:Nat):Int)∧Mx H' eR d (mks JxX 5 k c.del.length)∧Mx H' eR a (mks JxX 5 (k+5*c.del.length) c.add.length)∧Kp (idA d++idA a) H H'
def JyP (C:Tab) (f:Nat):Prop:= ∀ (c:Ch) (d a:AV) (k n m:Nat) (H:AH),Sx H eR d (mks JxX 5 k n)→Sx H eR a (mks JxX 5 (k+5*n) m)→k+5*n+5*m≤1099511627776→ ∃ v H',C f [chV c d a,.i .i64 k] H=some (v,H')∧v= .i .i64 ((k+5*n+5*m:Nat):Int)∧Ext H H'
theorem Jzi {c:Ch} {d a d' a':AV} {H:AH} (hR:Jzz C JxY eR) (hS:Jzg C JxV eR) (h1:Sx H eR d c.del) (h2:Sx H eR a c.add) (h3:Sx H eR d' c.del) (h4:Sx H eR a' c.add) (l1:c.del.length≤1048576) (l2:c.add.length≤1048576):
  Jt C Jxs [chV c d a,chV c d' a'] H fun v H'=>H'=H∧v= .b true:=by
 unfold Jt Jxs;have k1:=hR c.old H;have k2:=hR c.new H;have k3:=hS d d' c.del H h1 h3 (by omega)
 have k4:=hS a a' c.add H h2 h4 (by omega)
 have o1:=h1.out;have o2:=h2.out;have o3:=h3.out;have o4:=h4.out;have c1:=h1.one;have c2:=h2.one;have c3:=h3.one;have c4:=h4.one;rw [JcE] at k1 k2;unfold chV;simp -implicitDefEqProofs only [bU,Jc,reduceCtorEq,Ja,Jb,bT,bV,Ja,Jb,Jg,k1,k2,k3,k4,o1,o2,o3,o4,List.take,List.drop,Jr,rsC,rsV,Js]
theorem Jzk {c:Ch} {d a:AV} {k:Nat} {H:AH} (hM:JyL C JxQ eR JxX 5) (h1:Mx H eR d c.del) (h2:Mx H eR a c.add) (hd: ∀ j,j∈idA d→ ¬ j∈idA a) (hb:k+5*c.del.length+5*c.add.length≤1099511627776):
  Jt C Jxj [chV c d a,.i .i64 k] H fun v H'=>v= .i .i64 ((k+5*c.del.length+5*c.add.length:Nat):Int)∧Mx H' eR d (mks JxX 5 k c.del.length)∧Mx H' eR a (mks JxX 5 (k+5*c.del.length) c.add.length)∧Kp (idA d++idA a) H H':=by
 unfold Jt Jxj;obtain ⟨_,H1,k1,⟨rfl,m1⟩,p1⟩:=hM d c.del k H h1 (by omega)
 have g2:=p1.mn h2 (fun i hi hi2=>hd i hi2 hi)
 obtain ⟨_,H2,k2,⟨rfl,m2⟩,p2⟩:=hM a c.add (k+5*c.del.length) H1 g2 (by omega)
 have g1:=p2.mn m1 (fun i hi hi2=>hd i hi hi2)
 have o1:=(Mn.sl h1).out;have o2:=(Mn.sl h2).out;have c1:=(Mn.sl h1).one;have c2:=(Mn.sl h2).one;unfold chV;simp -implicitDefEqProofs only [bU,Jc,reduceCtorEq,Ja,Jb,bT,bV,Ja,Jb,k1,k2,o1,o2,Jr,rsC,rsV,Js]
 exact ⟨g1,m2,⟨Nat.le_trans p1.n p2.n,fun j hj hn=>by
  rw [List.mem_append] at hn;rw [p2.at' j (Nat.lt_of_lt_of_le hj p1.n) (fun h=>hn (.inr h)),p1.at' j hj fun h=>hn (.inl h)]⟩⟩
theorem Jzf {c:Ch} {d a:AV} {k n m:Nat} {H:AH} (hM:JyF C JxO eR JxX 5) (h1:Sx H eR d (mks JxX 5 k n)) (h2:Sx H eR a (mks JxX 5 (k+5*n) m)) (hb:k+5*n+5*m≤1099511627776):
  Jt C Jxk [chV c d a,.i .i64 k] H fun v H'=>v= .i .i64 ((k+5*n+5*m:Nat):Int)∧Ext H H':=by
 unfold Jt Jxk;obtain ⟨_,H1,k1,rfl,e1⟩:=hM d k n H h1 (by omega)
 obtain ⟨_,H2,k2,rfl,e2⟩:=hM a (k+5*n) m H1 (Sl.ext h2 e1) (by omega)
 have o1:=h1.out;have o2:=h2.out;have c1:=h1.one;have c2:=h2.one;have hn1:(((k+5*n:Nat):Int) < 0)=False:=eq_false (by omega)
 have hn2:(((k+5*n+5*m:Nat):Int) < 0)=False:=eq_false (by omega)
 unfold chV;simp -implicitDefEqProofs only [bU,Jc,reduceCtorEq,Ja,Jb,bT,bV,Ja,Jb,k1,k2,o1,o2,hn1,hn2,Jr,rsC,rsV,Js];exact e1.trans e2
end
structure JzC (c:Ch):Prop where
 d:c.del.length≤1048576
 a:c.add.length≤1048576
theorem Jza {z w:Zn} (hz:SzZ z) (hw:SzZ w):JzC (dzF z w).1:=by
 have h1:=Nat.le_trans (JxW z) hz.c;have h2:=Nat.le_trans (JxW w) hw.c;have l1:(JxM (Jxy z) (Jxy w)).length≤(Jxy z).length:=List.length_filter_le _ _;have l2:(JxM (Jxy w) (Jxy z)).length≤(Jxy w).length:=List.length_filter_le _ _;unfold dzF;split
 ·split
  ·exact ⟨by show (JxM _ _).length≤_;omega,by show (JxM _ _).length≤_;omega⟩
  ·exact ⟨by simp [ch0],by simp [ch0]⟩
 ·exact ⟨by simp [ch0],by simp [ch0]⟩
theorem JyG {z:Zn} (h:SzZ z) {k:Nat} (hk:k≤68719476736):mkE k (z.s.map fun s=>s.d.length)≤k+4194304:=by
 rw [Jqj];have:=h.s;have:=h.c;omega
section
variable {C:Tab}
set_option maxHeartbeats 8000000 in
theorem JyO {z w:Zn} {zs ws:AV} {ds es:List AV} {H:AH} (hSz:Jgx C ZQ) (hTo:ZR C ZH) (hS:Jzs C JxF) (hI:Jzs C JxE) (hEq:JyS C JxL) (hEz:JdL C YA) (hMz:JdR C Wj) (hMs:JyQ C Jxi) (hHs:JyP C Jxh)
  (hFo:JR H) (h:ZS H zs z.s ds) (h':ZS H ws w.s es) (hp:Jrv z) (hp':Jrv w):Jt C Jxg [.ag [.s z.a,zs],.ag [.s w.a,ws]] H fun v H'=>v= .b true∧Ext H H':=by
 unfold Jt Jxg;have zo:=h.row.out;have zc:=h.row.one;have wo:=h'.row.out;have wc:=h'.row.one;have k1:=hSz z zs ds 1048576 H h (by decide) (by decide) hp
 by_cases hq:(1048576:Int)- (wZ z:Nat) < 0
 ·rw [Jda hq] at k1
  simp -implicitDefEqProofs only [bU,Jc,reduceCtorEq,Ja,bT,bV,Ja,k1,Int.reduceNeg,Ji,Jr,rsC,rsV,Js];exact .refl _
 rw [Jhy hq] at k1;have hq':((1048576:Int)- (wZ z:Nat) < 0)=False:=eq_false hq;have k1b:=hSz w ws es (1048576- (wZ z:Nat)) H h' (by omega) (by omega) hp'
 by_cases hr:(1048576:Int)- (wZ z:Nat)- (wZ w:Nat) < 0
 ·rw [Jda hr] at k1b
  simp -implicitDefEqProofs only [bU,Jc,reduceCtorEq,Ja,bT,bV,Ja,k1,hq',k1b,Int.reduceNeg,Ji,Jr,rsC,rsV,Js];exact .refl _
 rw [Jhy hr] at k1b;have hr':((1048576:Int)- (wZ z:Nat)- (wZ w:Nat) < 0)=False:=eq_false hr;have hz:SzZ z:= .of (by omega)
 have hw:SzZ w:= .of (by omega)
 have hRs:=Jza hz hw;obtain ⟨_,Ha,ka,za,da,rfl,ea,ma⟩:=hTo z zs ds H h hz;obtain ⟨_,Hb,kb,wa,fa,rfl,eb,mb⟩:=hTo w ws es Ha (h'.ext ea) hw;have eab:=ea.trans eb;obtain ⟨_,Hc,kc,ec,sd,sa,rfl,md,mA,idd,ida,idj⟩:=hS z w za wa da fa Hb (hFo.ext eab) (ma.rd.ext eb) mb.rd hz hw;have eac:=eab.trans ec;obtain ⟨_,Hd,kd,zx,dx,rfl,ed,mx⟩:=hTo z zs ds Hc (h.ext eac) hz;have ead:=eac.trans ed;obtain ⟨_,He,ke,wx,fx,rfl,ee,my⟩:=hTo w ws es Hd (h'.ext ead) hw;have eae:=ead.trans ee;have mxe:=mx.ext ee;obtain ⟨_,Hf,kf,ef,gd,ga,rfl,ng,nG,jdd,jda,jdj⟩:=hI z w zx wx dx fx He (hFo.ext eae) mxe.rd my.rd hz hw;have eaf:=eae.trans ef;generalize hR:dzF z w=R at*;have ecf:=(ed.trans ee).trans ef;have sdf:=Mn.ext md ecf;have saf:=Mn.ext mA ecf;have kq:=hEq R.1 gd ga sd sa Hf ng.sl nG.sl sdf.sl saf.sl hRs.d hRs.a;have mxf:=mxe.ext ef;have myf:=my.ext ef;obtain ⟨_,Hg,kg,zy,dy,rfl,eg,mg⟩:=hTo z zs ds Hf (h.ext eaf) hz;have eag:=eaf.trans eg;have mxg:=mxf.ext eg;have kz:=hEz z zx zy dx dy Hg mxg.rd mg.rd hz;obtain ⟨_,Hh,kh,wy,fy,rfl,eh,mh⟩:=hTo w ws es Hg (h'.ext eag) hw;have eah:=eag.trans eh;have myh:=(myf.ext eg).ext eh;have mxh:=mxg.ext eh;have kw:=hEz w wx wy fx fy Hh myh.rd mh.rd hw;have efh:=eg.trans eh;have bz:=JyG hz (k:=1) (by decide)
 obtain ⟨Hi,ki,mxi,pi⟩:=hMz z.a zx z.s dx 1 _ Hh mxh (by omega)
 have xlo: ∀ i,i∈Jjf zx dx→Hc.n≤i:=fun i hi=>mx.ge i hi
 have xhi: ∀ i,i∈Jjf zx dx→i < Hd.n:=fun i hi=>mx.lt i hi
 have ylo: ∀ i,i∈Jjf wx fx→Hd.n≤i:=fun i hi=>my.ge i hi
 have yhi: ∀ i,i∈Jjf wx fx→i < He.n:=fun i hi=>my.lt i hi
 have ncd:=ed.n;have nde:=ee.n;have nef:=ef.n;have nab:=ea.n;have nbb:=eb.n;have nbc:=ec.n;have myi:=myh.kp pi fun i hi hx=>by have:=ylo i hi;have:=xhi i hx;omega
 have bw:=JyG hw (k:=mkE 1 (z.s.map fun s=>s.d.length)) (by omega)
 obtain ⟨Hj,kj,myj,pj⟩:=hMz w.a wx w.s fx (mkE 1 (z.s.map fun s=>s.d.length)) _ Hi myi (by omega)
 have sdl: ∀ i,i∈idA sd→i < Hc.n:=fun i hi=>Mn.lt md i hi
 have sal: ∀ i,i∈idA sa→i < Hc.n:=fun i hi=>Mn.lt mA i hi
 have sdj:=pj.mn (pi.mn (Mn.ext sdf efh) (fun i hi hx=>by have:=sdl i hi;have:=xlo i hx;omega)) (fun i hi hx=>by have:=sdl i hi;have:=ylo i hx;omega)
 have saj:=pj.mn (pi.mn (Mn.ext saf efh) (fun i hi hx=>by have:=sal i hi;have:=xlo i hx;omega)) (fun i hi hx=>by have:=sal i hi;have:=ylo i hx;omega)
 have gdj:=pj.mn (pi.mn (Mn.ext ng efh) (fun i hi hx=>by have:=jdd i hi;have:=xhi i hx;omega)) (fun i hi hx=>by have:=jdd i hi;have:=yhi i hx;omega)
 have gaj:=pj.mn (pi.mn (Mn.ext nG efh) (fun i hi hx=>by have:=jda i hi;have:=xhi i hx;omega)) (fun i hi hx=>by have:=jda i hi;have:=yhi i hx;omega)
 have kq2:=hEq R.1 gd ga sd sa Hj gdj.sl gaj.sl sdj.sl saj.sl hRs.d hRs.a;obtain ⟨_,Hk,kk,rfl,gdk,gak,pk⟩:=hMs R.1 gd ga 1 Hj gdj gaj jdj (by have:=hRs.d;have:=hRs.a;omega)
 obtain ⟨_,Hl,kl,rfl,el⟩:=hHs R.1 gd ga 1 R.1.del.length R.1.add.length Hk gdk.sl gak.sl (by have:=hRs.d;have:=hRs.a;omega)
 have e0i:Ext H Hi:=pi.put eah fun i hi=>by have:=xlo i hi;omega
 have e0j:Ext H Hj:=pj.put e0i fun i hi=>by have:=ylo i hi;omega
 have e0k:Ext H Hk:=pk.put e0j fun i hi=>by
  rcases List.mem_append.1 hi with hi | hi
  ·have:=jdd i hi;omega
  ·have:=jda i hi;omega
 have e0l:=e0k.trans el
 have sdk:=pk.mn sdj (fun i hi hx=>by
  have:=sdl i hi;rcases List.mem_append.1 hx with hx | hx
  ·have:=jdd i hx;omega
  ·have:=jda i hx;omega)
 have sak:=pk.mn saj (fun i hi hx=>by
  have:=sal i hi;rcases List.mem_append.1 hx with hx | hx
  ·have:=jdd i hx;omega
  ·have:=jda i hx;omega)
 obtain ⟨_,Hm,km,zv,dv,rfl,em,mv⟩:=hTo z zs ds Hl (h.ext e0l) hz;have e0m:=e0l.trans em;obtain ⟨_,Hn,kn,wv,fv,rfl,en,mw⟩:=hTo w ws es Hm (h'.ext e0m) hw;have e0n:=e0m.trans en;obtain ⟨_,Ho,ko,eo,hd,ha,rfl,oh,oH,-,-,-⟩:=hI z w zv wv dv fv Hn (hFo.ext e0n) (mv.rd.ext en) mw.rd hz hw;rw [hR] at ko oh oH;have elo:=(em.trans en).trans eo;have kq3:=hEq R.1 hd ha sd sa Ho oh.sl oH.sl (Mn.ext (Mn.ext sdk el) elo).sl (Mn.ext (Mn.ext sak el) elo).sl hRs.d hRs.a;obtain ⟨_,Hp,kp,rfl,ep⟩:=hHs R.1 gd ga 1 R.1.del.length R.1.add.length Ho (Sl.ext (Sl.ext gdk.sl el) elo) (Sl.ext (Sl.ext gak.sl el) elo) (by have:=hRs.d;have:=hRs.a;omega)
 have e0p:=((e0l.trans elo).trans ep);have o1:=ma.rd.row.out;have o2:=mb.rd.row.out;have o3:=mx.rd.row.out;have o4:=my.rd.row.out;have o5:=mg.rd.row.out;have o6:=mh.rd.row.out;have o7:=mv.rd.row.out;have o8:=mw.rd.row.out;have o9:=(Mn.sl md).out;have oa:=(Mn.sl mA).out;have ob:=(Mn.sl ng).out;have oc:=(Mn.sl nG).out;have od:=(Mn.sl oh).out;have oe:=(Mn.sl oH).out;have c1:=ma.rd.row.one;have c2:=mb.rd.row.one;have c3:=mx.rd.row.one;have c4:=my.rd.row.one;have c5:=mg.rd.row.one;have c6:=mh.rd.row.one;have c7:=mv.rd.row.one;have c8:=mw.rd.row.one;have c9:=(Mn.sl md).one;have ca:=(Mn.sl mA).one;have cb:=(Mn.sl ng).one;have cc:=(Mn.sl nG).one;have cd:=(Mn.sl oh).one;have ce:=(Mn.sl oH).one;have hn1:(((mkE (mkE 1 (z.s.map fun s=>s.d.length)) (w.s.map fun s=>s.d.length):Nat):Int) < 0)=False:=eq_false (by omega)
 have hn2:(((1+5*R.1.del.length+5*R.1.add.length:Nat):Int) < 0)=False:=eq_false (by omega)
 have ki':C Wj [.ag [.s z.a,zx],.i .i64 1] Hh=some (.i .i64 (mkE 1 (z.s.map fun s=>s.d.length):Nat),Hi):=ki
 have kk':C Jxi [chV R.1 gd ga,.i .i64 1] Hj=some (.i .i64 (1+5*R.1.del.length+5*R.1.add.length:Nat),Hk):=kk;have kl':C Jxh [chV R.1 gd ga,.i .i64 1] Hk=some (.i .i64 (1+5*R.1.del.length+5*R.1.add.length:Nat),Hl):=kl;have kp':C Jxh [chV R.1 gd ga,.i .i64 1] Ho=some (.i .i64 (1+5*R.1.del.length+5*R.1.add.length:Nat),Hp):=kp;simp only [chV] at kc kf kq kq2 kk' kl' ko kq3 kp';simp -implicitDefEqProofs only [bU,Jc,reduceCtorEq,Ja,bT,bV,Ja,Qs,J6,k1,hq',k1b,hr',ka,kb,kc,kd,ke,kf,kq,kg,kz,kh,kw,ki',kj,hn1,kq2,kk',kl',hn2,km,kn,ko,kq3,kp',List.take,List.drop,Jr,rsC,rsV,Js];exact e0p
end
def l8:List (Nat×Fn):=[(Xo,XE),(XZ,X6),(WL,Wx),(YL,YW),(Y4,Y9),(X4,X5),(QI,Xp),(XC,Qp),(QF,Xq),(XY,XW),(Zv,Zp),(XP,Y5),(Yy,Yx),(XJ,Xg),(Qq,Xb),(Za,Jz),(Ya,WG),(YN,Xe),(Zh,XT),(Qz,Qu),(WX,Q6),(WS,Q0),(QV,QN),(QJ,Xj),(Ye,WE),(WU,QS),(WR,QO),(Jao,Zq),(ZI,Yz),(ZH,YQ),(YJ,Xz),(YH,XF),(Wj,Xw),(YE,Xl),(Zo,XV),(Wd,Wl),(Zk,X0),(ZN,YT),(Ql,JV),(Jbn,JaL),(JxH,Jxu),(JxR,JxB),(JxP,JxD),(JxS,JxI),(JxG,Jxp),(Jxx,Jxn),(JxT,JxJ),(Jap,Zt),(Jxv,Jxl),(JxK,Jxt),(Jxw,Jxm),(JxN,JxA),(WY,QU),(JX,JY),(JI,Jm),(JS,QT),(QQ,Qo),(Yv,Jo),(WM,QC),(Yb,Jp),(Yc,Jk),(JxY,JxU),(JxV,Jx0),(JxQ,Jxz),(JxO,JxC),(JxL,Jxs),(Jxi,Jxj),(Jxh,Jxk),(JxF,Jxq),(JxE,Jxr),(Jxo,Jxg)]
def z8:List (Nat×Fn):=[(WF,WI),(YC,YY),(XM,YM),(Xf,Xu),(Qc,Z6),(Qn,Xt),(Xk,Xa),(WO,XU),(Yt,XA),(Ws,QH),(Zj,Zg),(YK,Yu),(JaE,JaH),(YD,Xm),(WP,X7),(XD,Xv),(Ww,QG),(Qg,WK),(Xi,Xy),(Wh,Xd),(WT,QP),(Wm,Wn),(Wv,YP),(XH,Xx),(QM,WJ),(YR,Y6),(XG,Xr),(XO,Wi),(WW,QZ),(YX,XB),(Yd,WB),(Yg,Wy),(Jak,Zr),(ZG,YG),(ZQ,Yw),(Jac,Zu),(ZL,YV),(YA,Y0),(ZT,YZ),(Y3,Q5),(YS,Q4),(Yf,WC),(Yi,WH)]
section
variable {C:Tab} {F:Fn} {vs:List AV} {H:AH} {r:AV}
theorem Jt.kz (h:Jt C F vs H fun v H'=>v=r∧Ext H H'):Jt C F vs H fun v H'=>v=r∧QA H H':=h.mono fun _ _ ⟨h1,h2⟩=>⟨h1,.of h2⟩
theorem Jt.kp (h:Jt C F vs H fun v H'=>Ext H H'∧v=r):Jt C F vs H fun v H'=>v=r∧QA H H':=h.mono fun _ _ ⟨h1,h2⟩=>⟨h2,.of h1⟩
theorem Jt.kf (h:Jt C F vs H fun v H'=>v=r∧H'=H):Jt C F vs H fun v H'=>v=r∧QA H H':=h.mono fun _ _ ⟨h1,h2⟩=>⟨h1,by rw [h2];exact JA H⟩
theorem Ja1.t {f:Nat} (h:Ja1 C f):Jtv C f:=fun s H hs=>⟨_,_,h s H hs,rfl,.refl _⟩
theorem Jbk.t {f:Nat} (h:Jbk C f):Jln C f:=fun s H hs=>⟨_,_,h s H hs,rfl,.refl _⟩
theorem Jc9.t {f:Nat} (h:Jc9 C f):Jjz C f:=fun t d H hF hd=>⟨_,_,h t d H hF hd,rfl,.refl _⟩
theorem XX {l z:List (Nat×Fn)} {k n:Nat} {G:AH→Prop} (e:lkF l n=some F) (h:Jt (JK l z k) F vs H fun v H'=>v=r∧G H') (hd:JhS F.s=true:=by rfl): ∃ H',JK l z (k+1) n vs H=some (r,H')∧G H':=by
 obtain ⟨v,H',h1,rfl,h2⟩:=JC e h hd;exact ⟨H',h1,h2⟩
theorem Jn8 {l z:List (Nat×Fn)} {k n:Nat} {G:AV→AH→Prop} (e:lkF l n=some F) (h: ∃ r:AV×AH,G r.1 r.2∧Jt (JK l z k) F vs H fun v H'=>v=r.1∧H'=r.2): ∃ v H',JK l z (k+1) n vs H=some (v,H')∧G v H':=by
 obtain ⟨r,h1,h2⟩:=h;refine ⟨r.1,r.2,?_,h1⟩
 rw [Jh3 e];have hx: ∃ r:AV×AH,Jt (JK l z k) F vs H fun v H'=>v=r.1∧H'=r.2:=⟨r,h2⟩
 unfold ent;rw [dif_pos hx];obtain ⟨x,e',M,a1,a2⟩:=JgG _ _ _ h2 hx.choose_spec;have hr:hx.choose=r:=Prod.ext (a2.2.2.1.symm.trans a1.2.2.1) (a2.2.2.2.symm.trans a1.2.2.2);rw [hr]
theorem JpQ {t:Int} {H:AH}:Jt C Zg [.i .i64 t] H fun v H'=>v= .b (Jd5 t)∧QA H H':=Jok
end
theorem Jl5 (ls:List (List UInt8)):Jfe ls=joinL ls:=by
 unfold joinL;induction ls with
 | nil=>rfl
 | cons x r ih=>simp only [Jfe,joinP,ih,List.cons_append,List.append_assoc]
theorem Jnk (k:Nat):Ji4 (JK l8 z8 (k+1)) JaV:=fun a ls H h h1 h2=>by
 have key: ∀ els,Sl H 1 a els→Jid H a∧slZ H 1 a∧Yk H a=els:=fun els h=>by
  obtain ⟨e1,e2⟩:=h.src [] 0;cases h<;>exact ⟨e2.1,e2.2,e1⟩
 obtain ⟨c1,c2,c3⟩:=key _ h;rw [Jbr rfl rfl,show JaV=183 from rfl,Jrd,JtL c1 c2 c3 h1 (by rw [Jl5];exact h2),Jl5]
theorem JoL (k:Nat):JjT (JK l8 z8 (k+1)) XN:=fun s t H=>by
 rw [Jbr rfl rfl,show XN=211 from rfl,Jr9]
 rfl
theorem JqB (k:Nat):Jgg (JK l8 z8 (k+1)) Xo:=by
 unfold Jgg;intros
 refine JaC (l:=l8) (z:=z8) (n:=Xo) (F:=XE) (k:=k) rfl ?_
 apply JpE<;>first | assumption | omega
theorem JuZ (k:Nat):Jms (JK l8 z8 (k+1)) XZ:=by
 unfold Jms;intros
 refine JaC (l:=l8) (z:=z8) (n:=XZ) (F:=X6) (k:=k) rfl ?_
 apply JuR<;>first | assumption | omega
theorem JuA (k:Nat):Jmt (JK l8 z8 (k+1)) WL:=by
 unfold Jmt;intros
 refine JaC (l:=l8) (z:=z8) (n:=WL) (F:=Wx) (k:=k) rfl ?_
 apply JuS<;>first | assumption | omega
theorem Juv (k:Nat):JnM (JK l8 z8 (k+1)) YL:=by
 unfold JnM;intros
 refine JaC (l:=l8) (z:=z8) (n:=YL) (F:=YW) (k:=k) rfl ?_
 apply Jvi<;>first | assumption | omega
theorem Jvd (k:Nat):Jnj (JK l8 z8 (k+1)) Y4:=by
 unfold Jnj;intros
 refine JaC (l:=l8) (z:=z8) (n:=Y4) (F:=Y9) (k:=k) rfl ?_
 apply JuH<;>first | assumption | omega
theorem JoI (k:Nat):JiI (JK l8 z8 (k+1)) X4:=by
 unfold JiI;intros
 refine JaC (l:=l8) (z:=z8) (n:=X4) (F:=X5) (k:=k) rfl ?_
 apply Jr8<;>first | assumption | omega
theorem Jf5 (k:Nat):JcQ (JK l8 z8 (k+1)) QI:=by
 unfold JcQ;intros
 refine JC (l:=l8) (z:=z8) (n:=QI) (F:=Xp) (k:=k) rfl ?_
 apply Jqa<;>first | assumption | omega
theorem JlH (k:Nat):Jgl (JK l8 z8 (k+2)) XC:=by
 unfold Jgl;intros
 refine JC (l:=l8) (z:=z8) (n:=XC) (F:=Qp) (k:=k+1) rfl ?_
 apply Jqg<;>first | assumption | exact JuA _ | exact JuZ _ | exact JqB _ | exact Jvd _ | omega
theorem Jot (k:Nat):JjD (JK l8 z8 (k+3)) WF:=by
 unfold JjD;intros
 refine Ju (l:=l8) (z:=z8) (n:=WF) (F:=WI) (k:=k+2) rfl rfl ?hv (Jt.kz ?_)
 case hv=>rfl
 apply JnI<;>first | assumption | exact JoI _ | exact JlH _ | omega
theorem JkO (k:Nat):Jb2 (JK l8 z8 (k+2)) YC:=by
 unfold Jb2;intros
 refine Ju (l:=l8) (z:=z8) (n:=YC) (F:=YY) (k:=k+1) rfl rfl ?hv (Jt.kz ?_)
 case hv=>rfl
 apply Jlw<;>first | assumption | exact Jf5 _ | omega
theorem Jbo (k:Nat):ZZ (JK l8 z8 (k+1)) QF:=by
 unfold ZZ;intros
 refine JC (l:=l8) (z:=z8) (n:=QF) (F:=Xq) (k:=k) rfl ?_
 apply JjM<;>first | assumption | omega
theorem Jkz (k:Nat):Jb2 (JK l8 z8 (k+2)) XM:=by
 unfold Jb2;intros
 refine Ju (l:=l8) (z:=z8) (n:=XM) (F:=YM) (k:=k+1) rfl rfl ?hv (Jt.kz ?_)
 case hv=>rfl
 apply JnF<;>first | assumption | exact Jbo _ | omega
theorem Ji0 (k:Nat):Ja1 (JK l8 z8 (k+1)) Xf:=by
 unfold Ja1;intros
 refine Ju (l:=l8) (z:=z8) (n:=Xf) (F:=Xu) (k:=k) rfl rfl ?hv (Jt.kz ?_)
 case hv=>rfl
 apply Jts<;>first | assumption | omega
theorem JhP (k:Nat):Ja1 (JK l8 z8 (k+1)) Qc:=by
 unfold Ja1;intros
 refine Ju (l:=l8) (z:=z8) (n:=Qc) (F:=Z6) (k:=k) rfl rfl ?hv (Jt.kz ?_)
 case hv=>rfl
 apply Jtr<;>first | assumption | omega
theorem Jlv (k:Nat):Jf3 (JK l8 z8 (k+1)) XY:=by
 unfold Jf3;intros
 refine JC (l:=l8) (z:=z8) (n:=XY) (F:=XW) (k:=k) rfl ?_
 apply JqH<;>first | assumption | omega
theorem Jc3 (k:Nat):Jbk (JK l8 z8 (k+2)) Qn:=by
 unfold Jbk;intros
 refine Ju (l:=l8) (z:=z8) (n:=Qn) (F:=Xt) (k:=k+1) rfl rfl ?hv (Jt.kz ?_)
 case hv=>rfl
 apply JoS<;>first | assumption | exact Jf5 _ | exact Ji0 _ | exact Jlv _ | exact (Ji0 _).t | omega
theorem JkN (k:Nat):Jeh (JK l8 z8 (k+3)) Xk:=by
 unfold Jeh;intros
 refine Ju (l:=l8) (z:=z8) (n:=Xk) (F:=Xa) (k:=k+2) rfl rfl ?hv (Jt.kz ?_)
 case hv=>rfl
 apply JsL<;>first | assumption | exact Jc3 _ | exact (Jc3 _).t | omega
theorem JlN (k:Nat):JbI (JK l8 z8 (k+4)) WO:=by
 unfold JbI;intros
 refine Ju (l:=l8) (z:=z8) (n:=WO) (F:=XU) (k:=k+3) rfl rfl ?hv ?_
 case hv=>rfl
 apply JpG<;>first | assumption | exact Jf5 _ | exact Jlv _ | exact JkN _ | omega
theorem Jth (k:Nat):JjT (JK l8 z8 (k+1)) Yt:=by
 unfold JjT;intros
 refine Ju (l:=l8) (z:=z8) (n:=Yt) (F:=XA) (k:=k) rfl rfl ?hv ?_
 case hv=>rfl
 apply Jur<;>first | assumption | omega
theorem Js7 (k:Nat):Jfx (JK l8 z8 (k+2)) Ws:=by
 unfold Jfx;intros
 refine Ju (l:=l8) (z:=z8) (n:=Ws) (F:=QH) (k:=k+1) rfl rfl ?hv ?_
 case hv=>rfl
 apply JsI<;>first | assumption | exact Jf5 _ | exact Ji0 _ | exact Jth _ | exact (Ji0 _).t | omega
theorem Jsa (k:Nat):JtP (JK l8 z8 (k+1)) Zv:=by
 unfold JtP;intros
 refine JaC (l:=l8) (z:=z8) (n:=Zv) (F:=Zp) (k:=k) rfl ?_
 apply Jp5<;>first | assumption | omega
theorem JiK (k:Nat):Jch (JK l8 z8 (k+1)) XP:=by
 unfold Jch;intros
 refine JaC (l:=l8) (z:=z8) (n:=XP) (F:=Y5) (k:=k) rfl ?_
 apply JmE<;>first | assumption | omega
theorem JqQ (k:Nat):JeC (JK l8 z8 (k+1)) Zj:=by
 unfold JeC;intros
 refine Ju (l:=l8) (z:=z8) (n:=Zj) (F:=Zg) (k:=k) rfl rfl ?hv ?_
 case hv=>rfl
 apply JpQ<;>first | assumption | omega
theorem Jpd (k:Nat):JeC (JK l8 z8 (k+1)) YK:=by
 unfold JeC;intros
 refine Ju (l:=l8) (z:=z8) (n:=YK) (F:=Yu) (k:=k) rfl rfl ?hv ?_
 case hv=>rfl
 apply Jok<;>first | assumption | omega
theorem Jvc (k:Nat):Jnr (JK l8 z8 (k+1)) JaE:=by
 unfold Jnr;intros
 refine Ju (l:=l8) (z:=z8) (n:=JaE) (F:=JaH) (k:=k) rfl rfl ?hv (Jt.kp ?_)
 case hv=>rfl
 apply Juk<;>first | assumption | omega
theorem Jm0 (k:Nat):JdA (JK l8 z8 (k+2)) Yy:=by
 unfold JdA;intros
 refine JC (l:=l8) (z:=z8) (n:=Yy) (F:=Yx) (k:=k+1) rfl ?_
 apply JnG<;>first | assumption | exact Jbo _ | omega
theorem JqM (k:Nat):Jeh (JK l8 z8 (k+3)) YD:=by
 unfold Jeh;intros
 refine Ju (l:=l8) (z:=z8) (n:=YD) (F:=Xm) (k:=k+2) rfl rfl ?hv ?_
 case hv=>rfl
 apply JpP<;>first | assumption | exact Jkz _ | exact JhP _ | omega
theorem Jkq (k:Nat):JbI (JK l8 z8 (k+2)) WP:=by
 unfold JbI;intros
 refine Ju (l:=l8) (z:=z8) (n:=WP) (F:=X7) (k:=k+1) rfl rfl ?hv ?_
 case hv=>rfl
 apply Jo0<;>first | assumption | exact Jbo _ | exact Jnk _ | exact JhP _ | omega
theorem JuI (k:Nat):Jnt (JK l8 z8 (k+4)) XD:=by
 unfold Jnt;intros
 refine Ju (l:=l8) (z:=z8) (n:=XD) (F:=Xv) (k:=k+3) rfl rfl ?hv ?_
 case hv=>rfl
 apply JtF<;>first | assumption | exact Jkq _ | exact JqM _ | omega
theorem Jto (k:Nat):Jfx (JK l8 z8 (k+2)) Ww:=by
 unfold Jfx;intros
 refine Ju (l:=l8) (z:=z8) (n:=Ww) (F:=QG) (k:=k+1) rfl rfl ?hv ?_
 case hv=>rfl
 apply JsO<;>first | assumption | exact Jbo _ | exact JhP _ | exact JoL _ | omega
theorem Jq2 (k:Nat):Jbw (JK l8 z8 (k+1)) XJ:=by
 unfold Jbw;intros
 refine JC (l:=l8) (z:=z8) (n:=XJ) (F:=Xg) (k:=k) rfl ?_
 apply JjU<;>first | assumption | omega
theorem JrW (k:Nat):Jjb (JK l8 z8 (k+1)) Qq:=by
 unfold Jjb;intros
 refine JaC (l:=l8) (z:=z8) (n:=Qq) (F:=Xb) (k:=k) rfl ?_
 apply Jrw<;>first | assumption | omega
theorem JiV (k:Nat):JdH (JK l8 z8 (k+2)) Za:=by
 unfold JdH;intros
 refine JC (l:=l8) (z:=z8) (n:=Za) (F:=Jz) (k:=k+1) rfl ?_
 apply JnH<;>first | assumption | exact JrW _ | exact Juv _ | exact Jq2 _ | omega
theorem Jd2 (k:Nat):Jc9 (JK l8 z8 (k+3)) Qg:=by
 unfold Jc9;intros
 refine Ju (l:=l8) (z:=z8) (n:=Qg) (F:=WK) (k:=k+2) rfl rfl ?hv (Jt.kz ?_)
 case hv=>rfl
 apply JnP<;>first | assumption | exact JiV _ | omega
theorem JpM (k:Nat):JbQ (JK l8 z8 (k+4)) Ya:=by
 unfold JbQ;intros
 refine JC (l:=l8) (z:=z8) (n:=Ya) (F:=WG) (k:=k+3) rfl ?_
 apply JhV<;>first | assumption | exact Jd2 _ | exact JiV _ | exact (Jd2 _).t | omega
theorem JuL (k:Nat):Jnu (JK l8 z8 (k+4)) Xi:=by
 unfold Jnu;intros
 refine Ju (l:=l8) (z:=z8) (n:=Xi) (F:=Xy) (k:=k+3) rfl rfl ?hv ?_
 case hv=>rfl
 apply JnY<;>first | assumption | exact Jot _ | exact JoI _ | exact JlH _ | exact Jc3 _ | exact (Jc3 _).t | omega
theorem JsT (k:Nat):Jk4 (JK l8 z8 (k+5)) Wh:=by
 unfold Jk4;intros
 refine Ju (l:=l8) (z:=z8) (n:=Wh) (F:=Xd) (k:=k+4) rfl rfl ?hv ?_
 case hv=>rfl
 apply Jnv<;>first | assumption | exact Jd2 _ | exact JpM _ | exact JhP _ | exact (Jd2 _).t | omega
theorem JsQ (k:Nat):JkX (JK l8 z8 (k+6)) WT:=by
 unfold JkX;intros
 refine Ju (l:=l8) (z:=z8) (n:=WT) (F:=QP) (k:=k+5) rfl rfl ?hv ?_
 case hv=>rfl
 apply JrP<;>first | assumption | exact Jd2 _ | exact JsT _ | exact JoL _ | exact (Jd2 _).t | omega
theorem JsC (k:Nat):Jjn (JK l8 z8 (k+1)) Wm:=by
 unfold Jjn;intros
 refine Ju (l:=l8) (z:=z8) (n:=Wm) (F:=Wn) (k:=k) rfl rfl ?hv ?_
 case hv=>rfl
 apply Jrn<;>first | assumption | omega
theorem JuM (k:Nat):JjI (JK l8 z8 (k+1)) Wv:=by
 unfold JjI;intros
 refine Ju (l:=l8) (z:=z8) (n:=Wv) (F:=YP) (k:=k) rfl rfl ?hv ?_
 case hv=>rfl
 apply Ju9<;>first | assumption | omega
theorem Juo (k:Nat):Jne (JK l8 z8 (k+1)) XH:=by
 unfold Jne;intros
 refine Ju (l:=l8) (z:=z8) (n:=XH) (F:=Xx) (k:=k) rfl rfl ?hv ?_
 case hv=>rfl
 apply Ju4<;>first | assumption | omega
theorem Jvk (k:Nat):JmI (JK l8 z8 (k+3)) QM:=by
 unfold JmI;intros
 refine Ju (l:=l8) (z:=z8) (n:=QM) (F:=WJ) (k:=k+2) rfl rfl ?hv ?_
 case hv=>rfl
 apply JuT<;>first | assumption | exact Js7 _ | omega
theorem Ju1 (k:Nat):JmG (JK l8 z8 (k+5)) YR:=by
 unfold JmG;intros
 refine Ju (l:=l8) (z:=z8) (n:=YR) (F:=Y6) (k:=k+4) rfl rfl ?hv ?_
 case hv=>rfl
 apply JuK<;>first | assumption | exact JkO _ | exact Jsa _ | exact JqQ _ | exact Jot _ | exact JlN _ | omega
theorem Jpi (k:Nat):Jiu (JK l8 z8 (k+1)) YN:=by
 unfold Jiu;intros
 refine JC (l:=l8) (z:=z8) (n:=YN) (F:=Xe) (k:=k) rfl ?_
 apply Jpc<;>first | assumption | omega
theorem Jlr (k:Nat):Jgr (JK l8 z8 (k+1)) XG:=by
 unfold Jgr;intros
 refine Ju (l:=l8) (z:=z8) (n:=XG) (F:=Xr) (k:=k) rfl rfl ?hv ?_
 case hv=>rfl
 apply Jqw<;>first | assumption | omega
theorem Jo2 (k:Nat):JhX (JK l8 z8 (k+1)) Zh:=by
 unfold JhX;intros
 refine JC (l:=l8) (z:=z8) (n:=Zh) (F:=XT) (k:=k) rfl ?_
 apply JoT<;>first | assumption | omega
theorem JkU (k:Nat):Je1 (JK l8 z8 (k+1)) Qz:=by
 unfold Je1;intros
 refine JC (l:=l8) (z:=z8) (n:=Qz) (F:=Qu) (k:=k) rfl ?_
 apply JpD<;>first | assumption | omega
theorem Jmn (k:Nat):JbM (JK l8 z8 (k+2)) WX:=by
 unfold JbM;intros
 refine JC (l:=l8) (z:=z8) (n:=WX) (F:=Q6) (k:=k+1) rfl ?_
 apply Jmy<;>first | assumption | exact Jlr _ | exact JkU _ | exact Jo2 _ | omega
theorem JlY (k:Nat):JeO (JK l8 z8 (k+1)) XO:=by
 unfold JeO;intros
 refine Ju (l:=l8) (z:=z8) (n:=XO) (F:=Wi) (k:=k) rfl rfl ?hv ?_
 case hv=>rfl
 apply JkC<;>first | assumption | omega
theorem Jnn (k:Nat):ZU (JK l8 z8 (k+2)) WW:=by
 unfold ZU;intros
 refine Ju (l:=l8) (z:=z8) (n:=WW) (F:=QZ) (k:=k+1) rfl rfl ?hv ?_
 case hv=>rfl
 apply Jib<;>first | assumption | exact JlY _ | omega
theorem Jqe (k:Nat):Je1 (JK l8 z8 (k+1)) WS:=by
 unfold Je1;intros
 refine JC (l:=l8) (z:=z8) (n:=WS) (F:=Q0) (k:=k) rfl ?_
 apply JqG<;>first | assumption | omega
theorem Jjl (k:Nat):JbM (JK l8 z8 (k+2)) QV:=by
 unfold JbM;intros
 refine JC (l:=l8) (z:=z8) (n:=QV) (F:=QN) (k:=k+1) rfl ?_
 apply Jnz<;>first | assumption | exact Jqe _ | omega
theorem JnK (k:Nat):ZU (JK l8 z8 (k+1)) YX:=by
 unfold ZU;intros
 refine Ju (l:=l8) (z:=z8) (n:=YX) (F:=XB) (k:=k) rfl rfl ?hv ?_
 case hv=>rfl
 apply Jh5<;>first | assumption | omega
theorem Jt8 (k:Nat):JqR (JK l8 z8 (k+1)) QJ:=by
 unfold JqR;intros
 refine XX (l:=l8) (z:=z8) (n:=QJ) (F:=Xj) (k:=k) rfl ?_
 apply Jj4<;>first | assumption | omega
theorem Js0 (k:Nat):Jlp (JK l8 z8 (k+1)) Yd:=by
 unfold Jlp;intros
 refine Ju (l:=l8) (z:=z8) (n:=Yd) (F:=WB) (k:=k) rfl rfl ?hv ?_
 case hv=>rfl
 apply JsR<;>first | assumption | omega
theorem Jte (k:Nat):JkR (JK l8 z8 (k+1)) Yg:=by
 unfold JkR;intros
 refine Ju (l:=l8) (z:=z8) (n:=Yg) (F:=Wy) (k:=k) rfl rfl ?hv ?_
 case hv=>rfl
 apply Jtw<;>first | assumption | omega
theorem Jsj (k:Nat):JlB (JK l8 z8 (k+1)) Ye:=by
 unfold JlB;intros
 refine JC (l:=l8) (z:=z8) (n:=Ye) (F:=WE) (k:=k) rfl ?_
 apply Jq5<;>first | assumption | omega
theorem Jtf (k:Nat):JkQ (JK l8 z8 (k+2)) WU:=by
 unfold JkQ;intros
 refine XX (l:=l8) (z:=z8) (n:=WU) (F:=QS) (k:=k+1) rfl ?_
 apply JtJ<;>first | assumption | exact Jt8 _ | omega
theorem Jpx (k:Nat):JiC (JK l8 z8 (k+2)) Jak:=by
 unfold JiC;intros
 refine Ju (l:=l8) (z:=z8) (n:=Jak) (F:=Zr) (k:=k+1) rfl rfl ?hv ?_
 case hv=>rfl
 apply JpH<;>first | assumption | exact Js0 _ | omega
theorem Jm4 (k:Nat):Jgm (JK l8 z8 (k+3)) ZG:=by
 unfold Jgm;intros
 refine Ju (l:=l8) (z:=z8) (n:=ZG) (F:=YG) (k:=k+2) rfl rfl ?hv ?_
 case hv=>rfl
 apply JmB<;>first | assumption | exact Jpx _ | omega
theorem JmJ (k:Nat):Jgx (JK l8 z8 (k+4)) ZQ:=by
 unfold Jgx;intros
 refine Ju (l:=l8) (z:=z8) (n:=ZQ) (F:=Yw) (k:=k+3) rfl rfl ?hv ?_
 case hv=>rfl
 apply Jns<;>first | assumption | exact Jm4 _ | omega
theorem JpV (k:Nat):Jh9 (JK l8 z8 (k+2)) Jac:=by
 unfold Jh9;intros
 refine Ju (l:=l8) (z:=z8) (n:=Jac) (F:=Zu) (k:=k+1) rfl rfl ?hv ?_
 case hv=>rfl
 apply Jqn<;>first | assumption | exact Jte _ | omega
theorem JmT (k:Nat):JfS (JK l8 z8 (k+3)) ZL:=by
 unfold JfS;intros
 refine Ju (l:=l8) (z:=z8) (n:=ZL) (F:=YV) (k:=k+2) rfl rfl ?hv ?_
 case hv=>rfl
 apply Jmr<;>first | assumption | exact JpV _ | omega
theorem Ji1 (k:Nat):JdL (JK l8 z8 (k+4)) YA:=by
 unfold JdL;intros
 refine Ju (l:=l8) (z:=z8) (n:=YA) (F:=Y0) (k:=k+3) rfl rfl ?hv ?_
 case hv=>rfl
 apply JnX<;>first | assumption | exact JmT _ | omega
theorem Jqu (k:Nat):Jat (JK l8 z8 (k+2)) Jao:=by
 unfold Jat;intros
 refine JC (l:=l8) (z:=z8) (n:=Jao) (F:=Zq) (k:=k+1) rfl ?_
 apply JqK<;>first | assumption | exact Jsj _ | omega
theorem JmD (k:Nat):JgM (JK l8 z8 (k+3)) ZI:=by
 unfold JgM;intros
 refine JC (l:=l8) (z:=z8) (n:=ZI) (F:=Yz) (k:=k+2) rfl ?_
 apply JmM<;>first | assumption | exact Jqu _ | omega
theorem Jna (k:Nat):ZR (JK l8 z8 (k+4)) ZH:=by
 unfold ZR;intros
 refine JC (l:=l8) (z:=z8) (n:=ZH) (F:=YQ) (k:=k+3) rfl ?_
 apply Jno<;>first | assumption | exact JmD _ | omega
theorem Jmp (k:Nat):Jf9 (JK l8 z8 (k+3)) YJ:=by
 unfold Jf9;intros
 refine XX (l:=l8) (z:=z8) (n:=YJ) (F:=Xz) (k:=k+2) rfl ?_
 apply Jnb<;>first | assumption | exact Jt8 _ | exact Jtf _ | omega
theorem Jje (k:Nat):JdR (JK l8 z8 (k+4)) Wj:=by
 unfold JdR;intros
 refine XX (l:=l8) (z:=z8) (n:=Wj) (F:=Xw) (k:=k+3) rfl ?_
 apply JmU<;>first | assumption | exact Jmp _ | omega
theorem Joq (k:Nat):Jat (JK l8 z8 (k+1)) Wd:=by
 unfold Jat;intros
 refine JC (l:=l8) (z:=z8) (n:=Wd) (F:=Wl) (k:=k) rfl ?_
 apply JmO<;>first | assumption | omega
theorem JtB (k:Nat):JkE (JK l8 z8 (k+4)) Zk:=by
 unfold JkE;intros
 refine JC (l:=l8) (z:=z8) (n:=Zk) (F:=X0) (k:=k+3) rfl ?_
 apply JrR<;>first | assumption | exact JkN _ | exact Joq _ | omega
theorem JrN (k:Nat):JkS (JK l8 z8 (k+5)) ZN:=by
 unfold JkS;intros
 refine JC (l:=l8) (z:=z8) (n:=ZN) (F:=YT) (k:=k+4) rfl ?_
 apply JsJ<;>first | assumption | exact JtB _ | exact JkU _ | omega
theorem Jut (k:Nat):Jgq (JK l8 z8 (k+1)) ZT:=by
 unfold Jgq;intros
 refine Ju (l:=l8) (z:=z8) (n:=ZT) (F:=YZ) (k:=k) rfl rfl ?hv (Jt.kf ?_)
 case hv=>rfl
 apply JmF<;>first | assumption | omega
theorem JuU (k:Nat):Jgv (JK l8 z8 (k+1)) Ql:=by
 unfold Jgv;intros
 refine JaC (l:=l8) (z:=z8) (n:=Ql) (F:=JV) (k:=k) rfl ?_
 apply Jod<;>first | assumption | omega
theorem Jvh (k:Nat):JpO (JK l8 z8 (k+2)) Jbn:=by
 unfold JpO;intros
 refine JC (l:=l8) (z:=z8) (n:=Jbn) (F:=JaL) (k:=k+1) rfl ?_
 apply Juj<;>first | assumption | exact JuU _ | omega
theorem JpI (k:Nat):Jis (JK l8 z8 (k+7)) Y3:=by
 unfold Jis;intros
 refine Ju (l:=l8) (z:=z8) (n:=Y3) (F:=Q5) (k:=k+6) rfl rfl ?hv ?_
 case hv=>rfl
 apply Jqh<;>first | assumption | exact JsQ _ | omega
theorem Jqf (k:Nat):Jh1 (JK l8 z8 (k+3)) YS:=by
 unfold Jh1;intros
 refine Ju (l:=l8) (z:=z8) (n:=YS) (F:=Q4) (k:=k+2) rfl rfl ?hv ?_
 case hv=>rfl
 apply JoU<;>first | assumption | exact Jto _ | omega
theorem Jy5 (k:Nat):Jyw (JK l8 z8 (k+1)) JxH:=by
 unfold Jyw;intros
 refine JC (l:=l8) (z:=z8) (n:=JxH) (F:=Jxu) (k:=k) rfl ?_
 apply Jy1<;>first | assumption | omega
theorem Jy6 (k:Nat):Jyn (JK l8 z8 (k+2)) JxR:=by
 unfold Jyn;intros
 refine JC (l:=l8) (z:=z8) (n:=JxR) (F:=JxB) (k:=k+1) rfl ?_
 apply JyZ<;>first | assumption | exact Jy5 _ | omega
theorem Jy3 (k:Nat):Jyv (JK l8 z8 (k+3)) JxP:=by
 unfold Jyv;intros
 refine JC (l:=l8) (z:=z8) (n:=JxP) (F:=JxD) (k:=k+2) rfl ?_
 apply Jy2<;>first | assumption | exact Jmn _ | omega
theorem Jzc (k:Nat):JyA (JK l8 z8 (k+4)) JxS:=by
 unfold JyA;intros
 refine JC (l:=l8) (z:=z8) (n:=JxS) (F:=JxI) (k:=k+3) rfl ?_
 apply Jzo<;>first | assumption | exact Jot _ | exact Jut _ | omega
theorem JyW (k:Nat):Jym (JK l8 z8 (k+5)) JxG:=by
 unfold Jym;intros
 refine JC (l:=l8) (z:=z8) (n:=JxG) (F:=Jxp) (k:=k+4) rfl ?_
 apply Jy7<;>first | assumption | exact JtB _ | exact Jzc _ | omega
theorem Jze (k:Nat):JyB (JK l8 z8 (k+2)) Jxx:=by
 unfold JyB;intros
 refine JaC (l:=l8) (z:=z8) (n:=Jxx) (F:=Jxn) (k:=k+1) rfl ?_
 apply Jzp<;>first | assumption | exact Jsa _ | omega
theorem Jzb (k:Nat):JyA (JK l8 z8 (k+4)) JxT:=by
 unfold JyA;intros
 refine JC (l:=l8) (z:=z8) (n:=JxT) (F:=JxJ) (k:=k+3) rfl ?_
 apply Jzd<;>first | assumption | exact Jd2 _ | exact Jvh _ | exact (Jd2 _).t | omega
theorem Jyu (k:Nat):Jx3 (JK l8 z8 (k+3)) Jap:=by
 unfold Jx3;intros
 refine JC (l:=l8) (z:=z8) (n:=Jap) (F:=Zt) (k:=k+2) rfl ?_
 apply JyE<;>first | assumption | exact Jjl _ | omega
theorem JyU (k:Nat):Jym (JK l8 z8 (k+5)) Jxv:=by
 unfold Jym;intros
 refine JC (l:=l8) (z:=z8) (n:=Jxv) (F:=Jxl) (k:=k+4) rfl ?_
 apply Jy0<;>first | assumption | exact Jyu _ | exact Jzb _ | omega
theorem Jzu (k:Nat):JyX (JK l8 z8 (k+2)) JxK:=by
 unfold JyX;intros
 refine JaC (l:=l8) (z:=z8) (n:=JxK) (F:=Jxt) (k:=k+1) rfl ?_
 apply Jzy<;>first | assumption | exact JiK _ | omega
theorem Jy9 (k:Nat):JyB (JK l8 z8 (k+3)) Jxw:=by
 unfold JyB;intros
 refine JaC (l:=l8) (z:=z8) (n:=Jxw) (F:=Jxm) (k:=k+2) rfl ?_
 apply Jzm<;>first | assumption | exact Jzu _ | exact JiK _ | omega
theorem JyK (k:Nat):Jyn (JK l8 z8 (k+1)) JxN:=by
 unfold Jyn;intros
 refine JC (l:=l8) (z:=z8) (n:=JxN) (F:=JxA) (k:=k) rfl ?_
 apply JyC<;>first | assumption | omega
end Go.Vm
