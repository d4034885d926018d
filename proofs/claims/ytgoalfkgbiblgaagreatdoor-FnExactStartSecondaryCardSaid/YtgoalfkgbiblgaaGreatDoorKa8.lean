import Derived.Test.YtgoalfkgbiblgaaGreatDoorKa3
import Derived.Test.YtgoalfkgbiblgaaGreatDoorProg
import Derived.KernelRfl
import Derived.Test.YtgoalfkgbiblgaaGreatDoorKa4
import Derived.Test.YtgoalfkgbiblgaaGreatDoorKa7
/- Functions' code as literals of the abstract machine, printed by wip/tools/lits.py; the kernel checks each against the translation. -/
set_option linter.unusedVariables false
set_option linter.unusedSimpArgs false
set_option maxRecDepth 100000
open Nat renaming reduceAdd→Ja,reduceLT→Jb,reduceEqDiff→Jc,reduceSub→Je,reduceLeDiff→Jg
open Int renaming reduceToNat→Jd,reduceLE→Jf,reduceEq→Jh
namespace Go.Vm
def XT:Fn:=⟨2,[(.t 4)],
  .q (.o [.mv 4 (.c .ns)])
  (.q (.q (.o [.mv 5 (.c (.i .i64 0))])
  (.b 0 (.l [0,1,5] (.q (.q (.o [.mv 6 (.t 5),
   .mv 7 (.t 1),
   .ln 8 (.t 7),
   .bn 9 .lss (.t 6) (.t 8)])
  (.i (.t 9) (.k)
  (.x 0)))
  (.q (.b 1 (.o [.mv 12 (.t 0),
   .mv 13 (.t 1),
   .mv 14 (.t 5),
   .ia 15 (.t 13) (.t 14) 5,
   .ld 16 (.t 15) (some 5),
   .lbs 17 (.ag [(.s []),(.i .i64 0),(.i .i64 0),(.i .i64 0),(.s [])]) 5 1 [(0,(.t 16))],
   .ap 18 (.t 12) (.t 17) 5 56,
   .mv 0 (.t 18)]))
  (.o [.mv 10 (.t 5),
   .bn 11 .add (.t 10) (.c (.i .i64 1)),
   .mv 5 (.t 11)]))))))
  (.q (.o [.mv 19 (.t 0),
   .mv 4 (.t 19)])
  (.r)))⟩
abbrev Zh:Nat:=140
theorem Jfo:Qi Go.Proofs.Tryz.prog XT 140=true:=by kernel_rfl
def Qu:Fn:=⟨1,[(.t 2)],
  .q (.o [.lbx 1 (.t 0),
   .mv 2 (.c .ns)])
  (.q (.o [.bs 5 (.ag [(.s []),(.i .i64 0),(.i .i64 0),(.i .i64 0),(.s [])]) 5 0 [],
   .mv 3 (.t 5)])
  (.q (.q (.o [.mv 4 (.c (.i .i64 0))])
  (.b 0 (.l [1,3,4] (.q (.q (.o [.mv 6 (.t 4),
   .fa 7 (.t 1) 3,
   .ld 8 (.t 7) none,
   .ln 9 (.t 8),
   .bn 10 .lss (.t 6) (.t 9)])
  (.i (.t 10) (.k)
  (.x 0)))
  (.q (.b 1 (.p [⟨.mv 13 (.t 3),[],false⟩,
   ⟨.fa 14 (.t 1) 0,[],false⟩,
   ⟨.ld 15 (.t 14) none,[],false⟩,
   ⟨.fa 16 (.t 1) 1,[],false⟩,
   ⟨.ld 17 (.t 16) none,[],false⟩,
   ⟨.fa 18 (.t 1) 2,[],false⟩,
   ⟨.ld 19 (.t 18) none,[],false⟩,
   ⟨.fa 20 (.t 1) 3,[],false⟩,
   ⟨.ld 21 (.t 20) none,[],false⟩,
   ⟨.mv 22 (.t 4),[],false⟩,
   ⟨.ia 23 (.t 21) (.t 22) 1,[],false⟩,
   ⟨.ld 24 (.t 23) none,[],false⟩,
   ⟨.bd 25 [(.s []),(.i .i64 0),(.i .i64 0),(.i .i64 0),(.s [])] [(0,1,(.t 15)),(1,1,(.t 17)),(2,1,(.c (.i .i64 1))),(3,1,(.t 19)),(4,1,(.t 24))],[],false⟩,
   ⟨.lbs 26 (.ag [(.s []),(.i .i64 0),(.i .i64 0),(.i .i64 0),(.s [])]) 5 1 [(0,(.t 25))],[],false⟩,
   ⟨.ap 27 (.t 13) (.t 26) 5 56,[],false⟩,
   ⟨.mv 3 (.t 27),[],false⟩]))
  (.o [.mv 11 (.t 4),
   .bn 12 .add (.t 11) (.c (.i .i64 1)),
   .mv 4 (.t 12)]))))))
  (.q (.o [.mv 28 (.t 3),
   .mv 2 (.t 28)])
  (.r))))⟩
abbrev Qz:Nat:=141
theorem JbB:Qi Go.Proofs.Tryz.prog Qu 141=true:=by kernel_rfl
def Jp:Fn:=⟨2,[(.c 4 (some 2)),(.t 5),(.t 6)],
  .q (.o [.lal 4 (.ag [(.s []),.ns]),
   .mv 5 (.c (.i .i64 0)),
   .mv 6 (.c (.i .i64 0))])
  (.q (.q (.o [.mv 19 (.t 1),
   .cl (some 20) 112 [(.t 19)],
   .un 21 .not (.t 20)])
  (.i (.t 21) (.q (.o [.bd 22 [(.s []),.ns] [],
   .st (.t 4) (.t 22) 2,
   .mv 5 (.c (.i .i64 32)),
   .mv 6 (.c (.i .i64 (-1)))])
  (.r))
  (.k)))
  (.q (.q (.o [.mv 23 (.t 0),
   .ln 24 (.t 23),
   .bn 25 .gtr (.t 24) (.c (.i .i64 500))])
  (.i (.t 25) (.q (.o [.bd 26 [(.s []),.ns] [],
   .st (.t 4) (.t 26) 2,
   .mv 5 (.c (.i .i64 12)),
   .mv 6 (.c (.i .i64 (-1)))])
  (.r))
  (.k)))
  (.q (.o [.bs 27 (.ag [(.s []),(.i .i64 0),(.i .i64 0),(.i .i64 0),(.s []),(.s []),(.s []),(.b false)]) 8 0 [],
   .mv 7 (.t 27)])
  (.q (.q (.o [.mv 8 (.c (.i .i64 0))])
  (.b 0 (.l [0,1,4,7,8] (.q (.q (.o [.mv 28 (.t 8),
   .mv 29 (.t 0),
   .ln 30 (.t 29),
   .bn 31 .lss (.t 28) (.t 30)])
  (.i (.t 31) (.k)
  (.x 0)))
  (.q (.b 1 (.q (.o [.mv 34 (.t 0),
   .mv 35 (.t 8),
   .ia 36 (.t 34) (.t 35) 5,
   .ld 37 (.t 36) (some 5),
   .mv 38 (.t 1),
   .cl (some 39) 221 [(.t 37),(.t 38)],
   .mv 9 (.t 39)])
  (.q (.q (.o [.mv 40 (.t 9),
   .bn 41 .neq (.t 40) (.c (.i .i64 0))])
  (.i (.t 41) (.q (.o [.bd 42 [(.s []),.ns] [],
   .mv 43 (.t 9),
   .mv 44 (.t 8),
   .st (.t 4) (.t 42) 2,
   .mv 5 (.t 43),
   .mv 6 (.t 44)])
  (.r))
  (.k)))
  (.p [⟨.mv 45 (.t 7),[],false⟩,
   ⟨.mv 46 (.t 0),[],false⟩,
   ⟨.mv 47 (.t 8),[],false⟩,
   ⟨.ia 48 (.t 46) (.t 47) 5,[],true⟩,
   ⟨.ld 49 (.t 48) (some 5),[],true⟩,
   ⟨.mv 50 (.t 0),[],false⟩,
   ⟨.mv 51 (.t 8),[],false⟩,
   ⟨.ia 52 (.t 50) (.t 51) 5,[],false⟩,
   ⟨.fa 53 (.t 52) 0,[],false⟩,
   ⟨.ld 54 (.t 53) none,[],false⟩,
   ⟨.cl (some 55) 222 [(.t 54)],[3,4],true⟩,
   ⟨.mv 56 (.t 0),[],false⟩,
   ⟨.mv 57 (.t 8),[],false⟩,
   ⟨.ia 58 (.t 56) (.t 57) 5,[10],false⟩,
   ⟨.fa 59 (.t 58) 1,[],false⟩,
   ⟨.ld 60 (.t 59) none,[10],false⟩,
   ⟨.mv 61 (.t 0),[],false⟩,
   ⟨.mv 62 (.t 8),[],false⟩,
   ⟨.ia 63 (.t 61) (.t 62) 5,[10],false⟩,
   ⟨.fa 64 (.t 63) 4,[],false⟩,
   ⟨.ld 65 (.t 64) none,[10],false⟩,
   ⟨.cl (some 66) 223 [(.t 60),(.t 65)],[3,4],false⟩,
   ⟨.bd 67 [(.s []),(.i .i64 0),(.i .i64 0),(.i .i64 0),(.s []),(.s []),(.s []),(.b false)] [(0,5,(.t 49)),(5,1,(.t 55)),(6,1,(.t 66))],[],false⟩,
   ⟨.lbs 68 (.ag [(.s []),(.i .i64 0),(.i .i64 0),(.i .i64 0),(.s []),(.s []),(.s []),(.b false)]) 8 1 [(0,(.t 67))],[],false⟩,
   ⟨.ap 69 (.t 45) (.t 68) 8 96,[],false⟩,
   ⟨.mv 7 (.t 69),[],false⟩]))))
  (.o [.mv 32 (.t 8),
   .bn 33 .add (.t 32) (.c (.i .i64 1)),
   .mv 8 (.t 33)]))))))
  (.q (.o [.mv 70 (.t 7),
   .cl (some 71) 224 [(.t 70)],
   .mv 10 (.t 71)])
  (.q (.q (.o [.mv 72 (.t 10),
   .bn 73 .geq (.t 72) (.c (.i .i64 0))])
  (.i (.t 73) (.q (.o [.bd 74 [(.s []),.ns] [],
   .mv 75 (.t 10),
   .st (.t 4) (.t 74) 2,
   .mv 5 (.c (.i .i64 24)),
   .mv 6 (.t 75)])
  (.r))
  (.k)))
  (.q (.o [.mv 77 (.t 7),
   .mv 78 (.t 1),
   .cl (some 79) 225 [(.t 77),(.t 78)],
   .mv 76 (.t 79),
   .ex 80 (.t 76) 0,
   .ex 81 (.t 76) 1,
   .mv 11 (.t 80),
   .mv 12 (.t 81)])
  (.q (.q (.o [.mv 82 (.t 11),
   .bn 83 .neq (.t 82) (.c (.i .i64 0))])
  (.i (.t 83) (.q (.o [.bd 84 [(.s []),.ns] [],
   .mv 85 (.t 11),
   .mv 86 (.t 12),
   .st (.t 4) (.t 84) 2,
   .mv 5 (.t 85),
   .mv 6 (.t 86)])
  (.r))
  (.k)))
  (.q (.o [.bs 87 (.ag [(.s []),(.i .i64 0),(.i .i64 0),(.i .i64 0),(.s []),(.s []),(.s []),(.b false)]) 8 0 [],
   .mv 13 (.t 87)])
  (.q (.q (.o [.mv 14 (.c (.i .i64 0))])
  (.b 2 (.l [1,4,7,13,14] (.q (.q (.o [.mv 88 (.t 14),
   .mv 89 (.t 7),
   .ln 90 (.t 89),
   .bn 91 .lss (.t 88) (.t 90)])
  (.i (.t 91) (.k)
  (.x 2)))
  (.q (.b 3 (.q (.o [.mv 94 (.t 7),
   .mv 95 (.t 14),
   .ia 96 (.t 94) (.t 95) 8,
   .fa 97 (.t 96) 7,
   .ld 98 (.t 97) none,
   .un 99 .not (.t 98)])
  (.i (.t 99) (.o [.mv 100 (.t 13),
   .mv 101 (.t 7),
   .mv 102 (.t 14),
   .ia 103 (.t 101) (.t 102) 8,
   .ld 104 (.t 103) (some 8),
   .lbs 105 (.ag [(.s []),(.i .i64 0),(.i .i64 0),(.i .i64 0),(.s []),(.s []),(.s []),(.b false)]) 8 1 [(0,(.t 104))],
   .ap 106 (.t 100) (.t 105) 8 96,
   .mv 13 (.t 106)])
  (.k))))
  (.o [.mv 92 (.t 14),
   .bn 93 .add (.t 92) (.c (.i .i64 1)),
   .mv 14 (.t 93)]))))))
  (.q (.o [.mv 107 (.t 13),
   .cl (some 108) 226 [(.t 107)],
   .mv 13 (.t 108)])
  (.q (.o [.mv 109 (.t 1),
   .bd 110 [(.s []),.ns] [(0,1,(.t 109))],
   .lal 15 (.ag [(.s []),.ns]),
   .st (.t 15) (.t 110) 2])
  (.q (.q (.o [.mv 16 (.c (.i .i64 0))])
  (.b 4 (.l [4,7,13,15,16] (.q (.q (.o [.mv 111 (.t 16),
   .mv 112 (.t 13),
   .ln 113 (.t 112),
   .bn 114 .lss (.t 111) (.t 113)])
  (.i (.t 114) (.k)
  (.x 4)))
  (.q (.b 5 (.q (.o [.mv 117 (.t 13),
   .mv 118 (.t 16),
   .ia 119 (.t 117) (.t 118) 8,
   .fa 120 (.t 119) 0,
   .ld 121 (.t 120) (some 5),
   .lal 17 (.ag [(.s []),(.i .i64 0),(.i .i64 0),(.i .i64 0),(.s [])]),
   .st (.t 17) (.t 121) 5])
  (.q (.q (.p [⟨.mv 122 (.t 16),[],false⟩,
   ⟨.bn 123 .eql (.t 122) (.c (.i .i64 0)),[],false⟩,
   ⟨.mv 124 (.t 123),[],false⟩,
   ⟨.gd 124 false (.mv 125 (.t 13)),[],false⟩,
   ⟨.gd 124 false (.mv 126 (.t 16)),[],false⟩,
   ⟨.gd 124 false (.bn 127 .sub (.t 126) (.c (.i .i64 1))),[],false⟩,
   ⟨.gd 124 false (.ia 128 (.t 125) (.t 127) 8),[],false⟩,
   ⟨.gd 124 false (.fa 129 (.t 128) 5),[],false⟩,
   ⟨.gd 124 false (.ld 130 (.t 129) none),[],false⟩,
   ⟨.gd 124 false (.mv 131 (.t 13)),[],false⟩,
   ⟨.gd 124 false (.mv 132 (.t 16)),[],false⟩,
   ⟨.gd 124 false (.ia 133 (.t 131) (.t 132) 8),[],false⟩,
   ⟨.gd 124 false (.fa 134 (.t 133) 5),[],false⟩,
   ⟨.gd 124 false (.ld 135 (.t 134) none),[],false⟩,
   ⟨.gd 124 false (.bn 136 .neq (.t 130) (.t 135)),[],false⟩,
   ⟨.pk 137 (.t 124) (.c (.b true)) (.t 136),[],false⟩,
   ⟨.mv 138 (.t 137),[],false⟩,
   ⟨.gd 138 false (.mv 139 (.t 13)),[],false⟩,
   ⟨.gd 138 false (.mv 140 (.t 16)),[],false⟩,
   ⟨.gd 138 false (.bn 141 .sub (.t 140) (.c (.i .i64 1))),[],false⟩,
   ⟨.gd 138 false (.ia 142 (.t 139) (.t 141) 8),[],false⟩,
   ⟨.gd 138 false (.fa 143 (.t 142) 0),[],false⟩,
   ⟨.gd 138 false (.fa 144 (.t 143) 1),[],false⟩,
   ⟨.gd 138 false (.ld 145 (.t 144) none),[],false⟩,
   ⟨.gd 138 false (.fa 146 (.t 17) 1),[],false⟩,
   ⟨.gd 138 false (.ld 147 (.t 146) none),[],false⟩,
   ⟨.gd 138 false (.bn 148 .neq (.t 145) (.t 147)),[],false⟩,
   ⟨.pk 149 (.t 138) (.c (.b true)) (.t 148),[],false⟩])
  (.i (.t 149) (.p [⟨.fa 150 (.t 15) 1,[],false⟩,
   ⟨.ld 151 (.t 150) none,[],true⟩,
   ⟨.mv 152 (.t 7),[],false⟩,
   ⟨.mv 153 (.t 13),[],false⟩,
   ⟨.mv 154 (.t 16),[],false⟩,
   ⟨.ia 155 (.t 153) (.t 154) 8,[],false⟩,
   ⟨.fa 156 (.t 155) 5,[],false⟩,
   ⟨.ld 157 (.t 156) none,[],false⟩,
   ⟨.cl (some 158) 227 [(.t 152),(.t 157)],[1],true⟩,
   ⟨.fa 159 (.t 17) 1,[],false⟩,
   ⟨.ld 160 (.t 159) none,[8],false⟩,
   ⟨.fa 161 (.t 17) 3,[],false⟩,
   ⟨.ld 162 (.t 161) none,[8],false⟩,
   ⟨.bd 163 [(.s []),(.i .i64 0),(.i .i64 0),.ns] [(0,1,(.t 158)),(1,1,(.t 160)),(2,1,(.t 162))],[],false⟩,
   ⟨.lbs 164 (.ag [(.s []),(.i .i64 0),(.i .i64 0),.ns]) 4 1 [(0,(.t 163))],[1],false⟩,
   ⟨.ap 165 (.t 151) (.t 164) 4 56,[],false⟩,
   ⟨.fa 166 (.t 15) 1,[],false⟩,
   ⟨.st (.t 166) (.t 165) 1,[],false⟩])
  (.k)))
  (.q (.o [.fa 167 (.t 15) 1,
   .ld 168 (.t 167) none,
   .ln 169 (.t 168),
   .bn 170 .sub (.t 169) (.c (.i .i64 1)),
   .mv 18 (.t 170)])
  (.p [⟨.fa 171 (.t 15) 1,[],false⟩,
   ⟨.ld 172 (.t 171) none,[],true⟩,
   ⟨.mv 173 (.t 18),[],false⟩,
   ⟨.fa 174 (.t 15) 1,[],false⟩,
   ⟨.ld 175 (.t 174) none,[],true⟩,
   ⟨.mv 176 (.t 18),[],false⟩,
   ⟨.ia 177 (.t 175) (.t 176) 4,[],true⟩,
   ⟨.fa 178 (.t 177) 3,[],false⟩,
   ⟨.ld 179 (.t 178) none,[],true⟩,
   ⟨.fa 180 (.t 17) 4,[],false⟩,
   ⟨.ld 181 (.t 180) none,[],false⟩,
   ⟨.lbs 182 (.s []) 1 1 [(0,(.t 181))],[1,4,6,8],false⟩,
   ⟨.ap 183 (.t 179) (.t 182) 1 16,[1],false⟩,
   ⟨.ia 184 (.t 172) (.t 173) 4,[],false⟩,
   ⟨.fa 185 (.t 184) 3,[],false⟩,
   ⟨.st (.t 185) (.t 183) 1,[],false⟩])))))
  (.o [.mv 115 (.t 16),
   .bn 116 .add (.t 115) (.c (.i .i64 1)),
   .mv 16 (.t 116)]))))))
  (.q (.o [.ld 186 (.t 15) (some 2),
   .st (.t 4) (.t 186) 2,
   .mv 5 (.c (.i .i64 0)),
   .mv 6 (.c (.i .i64 0))])
  (.r)))))))))))))))⟩
abbrev Yb:Nat:=142
theorem Jdt:Qi Go.Proofs.Tryz.prog Jp 142=true:=by kernel_rfl
def Xr:Fn:=⟨1,[(.t 2)],
  .q (.o [.lbx 1 (.t 0),
   .mv 2 (.c (.i .i64 0))])
  (.q (.o [.mv 3 (.c (.i .i64 0))])
  (.q (.q (.o [.mv 4 (.c (.i .i64 0))])
  (.b 0 (.l [1,3,4] (.q (.q (.o [.mv 5 (.t 4),
   .fa 6 (.t 1) 1,
   .ld 7 (.t 6) none,
   .ln 8 (.t 7),
   .bn 9 .lss (.t 5) (.t 8)])
  (.i (.t 9) (.k)
  (.x 0)))
  (.q (.b 1 (.o [.mv 12 (.t 3),
   .fa 13 (.t 1) 1,
   .ld 14 (.t 13) none,
   .mv 15 (.t 4),
   .ia 16 (.t 14) (.t 15) 4,
   .fa 17 (.t 16) 3,
   .ld 18 (.t 17) none,
   .ln 19 (.t 18),
   .bn 20 .add (.t 12) (.t 19),
   .mv 3 (.t 20)]))
  (.o [.mv 10 (.t 4),
   .bn 11 .add (.t 10) (.c (.i .i64 1)),
   .mv 4 (.t 11)]))))))
  (.q (.o [.mv 21 (.t 3),
   .mv 2 (.t 21)])
  (.r))))⟩
abbrev XG:Nat:=166
theorem JdX:Qi Go.Proofs.Tryz.prog Xr 166=true:=by kernel_rfl
def Q6:Fn:=⟨1,[(.t 2)],
  .q (.o [.lbx 1 (.t 0),
   .mv 2 (.c .ns)])
  (.q (.o [.bs 5 (.ag [(.s []),(.i .i64 0),(.i .i64 0),(.i .i64 0),(.s [])]) 5 0 [],
   .mv 3 (.t 5)])
  (.q (.q (.o [.fa 6 (.t 1) 1,
   .ld 7 (.t 6) none,
   .ln 8 (.t 7),
   .bn 9 .gtr (.t 8) (.c (.i .i64 500)),
   .mv 10 (.t 9),
   .gd 10 false (.ld 11 (.t 1) (some 2)),
   .gd 10 false (.cl (some 12) 166 [(.t 11)]),
   .gd 10 false (.bn 13 .gtr (.t 12) (.c (.i .i64 500))),
   .pk 14 (.t 10) (.c (.b true)) (.t 13)])
  (.i (.t 14) (.q (.o [.mv 15 (.t 3),
   .mv 2 (.t 15)])
  (.r))
  (.k)))
  (.q (.q (.o [.mv 4 (.c (.i .i64 0))])
  (.b 0 (.l [1,3,4] (.q (.q (.o [.mv 16 (.t 4),
   .fa 17 (.t 1) 1,
   .ld 18 (.t 17) none,
   .ln 19 (.t 18),
   .bn 20 .lss (.t 16) (.t 19)])
  (.i (.t 20) (.k)
  (.x 0)))
  (.q (.b 1 (.o [.mv 23 (.t 3),
   .fa 24 (.t 1) 1,
   .ld 25 (.t 24) none,
   .mv 26 (.t 4),
   .ia 27 (.t 25) (.t 26) 4,
   .ld 28 (.t 27) (some 4),
   .cl (some 29) 141 [(.t 28)],
   .cl (some 30) 140 [(.t 23),(.t 29)],
   .mv 3 (.t 30)]))
  (.o [.mv 21 (.t 4),
   .bn 22 .add (.t 21) (.c (.i .i64 1)),
   .mv 4 (.t 22)]))))))
  (.q (.o [.mv 31 (.t 3),
   .mv 2 (.t 31)])
  (.r)))))⟩
abbrev WX:Nat:=167
theorem Jcp:Qi Go.Proofs.Tryz.prog Q6 167=true:=by kernel_rfl
def QZ:Fn:=⟨2,[(.t 4)],
  .q (.o [.lbx 2 (.t 0),
   .lbx 3 (.t 1),
   .mv 4 (.c (.b false))])
  (.q (.q (.o [.fa 6 (.t 2) 0,
   .ld 7 (.t 6) none,
   .fa 8 (.t 3) 0,
   .ld 9 (.t 8) none,
   .bn 10 .neq (.t 7) (.t 9),
   .mv 11 (.t 10),
   .gd 11 false (.fa 12 (.t 2) 1),
   .gd 11 false (.ld 13 (.t 12) none),
   .gd 11 false (.ln 14 (.t 13)),
   .gd 11 false (.fa 15 (.t 3) 1),
   .gd 11 false (.ld 16 (.t 15) none),
   .gd 11 false (.ln 17 (.t 16)),
   .gd 11 false (.bn 18 .neq (.t 14) (.t 17)),
   .pk 19 (.t 11) (.c (.b true)) (.t 18)])
  (.i (.t 19) (.q (.o [.mv 4 (.c (.b false))])
  (.r))
  (.k)))
  (.q (.q (.o [.mv 5 (.c (.i .i64 0))])
  (.b 0 (.l [2,3,5] (.q (.q (.o [.mv 20 (.t 5),
   .fa 21 (.t 2) 1,
   .ld 22 (.t 21) none,
   .ln 23 (.t 22),
   .bn 24 .lss (.t 20) (.t 23)])
  (.i (.t 24) (.k)
  (.x 0)))
  (.q (.b 1 (.q (.p [⟨.fa 27 (.t 2) 1,[],false⟩,
   ⟨.ld 28 (.t 27) none,[],false⟩,
   ⟨.mv 29 (.t 5),[],false⟩,
   ⟨.ia 30 (.t 28) (.t 29) 4,[],false⟩,
   ⟨.ld 31 (.t 30) (some 4),[],false⟩,
   ⟨.fa 32 (.t 3) 1,[],false⟩,
   ⟨.ld 33 (.t 32) none,[],false⟩,
   ⟨.mv 34 (.t 5),[],false⟩,
   ⟨.ia 35 (.t 33) (.t 34) 4,[],false⟩,
   ⟨.ld 36 (.t 35) (some 4),[],false⟩,
   ⟨.cl (some 37) 245 [(.t 31),(.t 36)],[],false⟩,
   ⟨.un 38 .not (.t 37),[],false⟩])
  (.i (.t 38) (.q (.o [.mv 4 (.c (.b false))])
  (.r))
  (.k))))
  (.o [.mv 25 (.t 5),
   .bn 26 .add (.t 25) (.c (.i .i64 1)),
   .mv 5 (.t 26)]))))))
  (.q (.o [.mv 4 (.c (.b true))])
  (.r))))⟩
abbrev WW:Nat:=168
theorem Jb8:Qi Go.Proofs.Tryz.prog QZ 168=true:=by kernel_rfl
def Y6:Fn:=⟨2,[(.t 4)],
  .q (.o [.lbx 2 (.t 0),
   .mv 4 (.c (.i .i64 0))])
  (.q (.b 0 (.q (.o [.fa 6 (.t 2) 0,
   .ld 7 (.t 6) none,
   .cl (some 8) 112 [(.t 7)],
   .un 9 .not (.t 8),
   .mv 5 (.t 9)])
  (.i (.t 5) (.q (.o [.mv 4 (.c (.i .i64 1))])
  (.r))
  (.q (.o [.fa 11 (.t 2) 2,
   .ld 12 (.t 11) none,
   .bn 13 .neq (.t 12) (.c (.i .i64 1)),
   .mv 10 (.t 13)])
  (.i (.t 10) (.q (.o [.mv 4 (.c (.i .i64 19))])
  (.r))
  (.q (.o [.fa 15 (.t 2) 3,
   .ld 16 (.t 15) none,
   .cl (some 17) 77 [(.t 16),(.c (.i .i64 2147483647))],
   .un 18 .not (.t 17),
   .mv 14 (.t 18)])
  (.i (.t 14) (.q (.o [.mv 4 (.c (.i .i64 18))])
  (.r))
  (.q (.o [.fa 20 (.t 2) 1,
   .ld 21 (.t 20) none,
   .cl (some 22) 251 [(.t 21)],
   .mv 23 (.t 22),
   .gd 23 false (.fa 24 (.t 2) 1),
   .gd 23 false (.ld 25 (.t 24) none),
   .gd 23 false (.bn 26 .lss (.t 25) (.c (.i .i64 0))),
   .pk 27 (.t 23) (.c (.b true)) (.t 26),
   .mv 28 (.t 27),
   .gd 28 false (.fa 29 (.t 2) 1),
   .gd 28 false (.ld 30 (.t 29) none),
   .gd 28 false (.bn 31 .gtr (.t 30) (.c (.i .i64 65535))),
   .pk 32 (.t 28) (.c (.b true)) (.t 31),
   .mv 19 (.t 32)])
  (.i (.t 19) (.q (.o [.mv 4 (.c (.i .i64 6))])
  (.r))
  (.q (.o [.fa 34 (.t 2) 1,
   .ld 35 (.t 34) none,
   .fa 36 (.t 2) 4,
   .ld 37 (.t 36) none,
   .cl (some 38) 248 [(.t 35),(.t 37)],
   .bn 39 .neq (.t 38) (.c (.i .i64 0)),
   .mv 33 (.t 39)])
  (.i (.t 33) (.q (.o [.mv 4 (.c (.i .i64 7))])
  (.r))
  (.q (.o [.fa 41 (.t 2) 0,
   .ld 42 (.t 41) none,
   .mv 43 (.t 1),
   .cl (some 44) 228 [(.t 42),(.t 43)],
   .un 45 .not (.t 44),
   .mv 40 (.t 45)])
  (.i (.t 40) (.q (.o [.mv 4 (.c (.i .i64 22))])
  (.r))
  (.k))))))))))))))
  (.q (.o [.mv 4 (.c (.i .i64 0))])
  (.r)))⟩
abbrev YR:Nat:=221
theorem Jga:Qi Go.Proofs.Tryz.prog Y6 221=true:=by kernel_rfl
def Xe:Fn:=⟨1,[(.t 2)],
  .q (.o [.mv 2 (.c (.i .i64 0))])
  (.q (.o [.mv 3 (.c (.i .i64 (-1)))])
  (.q (.q (.o [.mv 4 (.c (.i .i64 0))])
  (.b 0 (.l [0,3,4] (.q (.q (.o [.mv 7 (.t 4),
   .mv 8 (.t 0),
   .ln 9 (.t 8),
   .bn 10 .lss (.t 7) (.t 9)])
  (.i (.t 10) (.k)
  (.x 0)))
  (.q (.b 1 (.q (.o [.mv 5 (.c (.i .i64 (-1)))])
  (.q (.q (.o [.mv 6 (.c (.i .i64 0))])
  (.b 2 (.l [0,3,4,5,6] (.q (.q (.o [.mv 13 (.t 6),
   .mv 14 (.t 4),
   .bn 15 .lss (.t 13) (.t 14)])
  (.i (.t 15) (.k)
  (.x 2)))
  (.q (.b 3 (.q (.q (.p [⟨.mv 18 (.t 0),[],false⟩,
   ⟨.mv 19 (.t 6),[],false⟩,
   ⟨.ia 20 (.t 18) (.t 19) 8,[],false⟩,
   ⟨.fa 21 (.t 20) 5,[],false⟩,
   ⟨.ld 22 (.t 21) none,[],false⟩,
   ⟨.mv 23 (.t 0),[],false⟩,
   ⟨.mv 24 (.t 4),[],false⟩,
   ⟨.ia 25 (.t 23) (.t 24) 8,[],false⟩,
   ⟨.fa 26 (.t 25) 5,[],false⟩,
   ⟨.ld 27 (.t 26) none,[],false⟩,
   ⟨.bn 28 .neq (.t 22) (.t 27),[],false⟩,
   ⟨.mv 29 (.t 28),[],false⟩,
   ⟨.gd 29 false (.mv 30 (.t 0)),[],false⟩,
   ⟨.gd 29 false (.mv 31 (.t 6)),[],false⟩,
   ⟨.gd 29 false (.ia 32 (.t 30) (.t 31) 8),[],false⟩,
   ⟨.gd 29 false (.fa 33 (.t 32) 0),[],false⟩,
   ⟨.gd 29 false (.fa 34 (.t 33) 1),[],false⟩,
   ⟨.gd 29 false (.ld 35 (.t 34) none),[],false⟩,
   ⟨.gd 29 false (.mv 36 (.t 0)),[],false⟩,
   ⟨.gd 29 false (.mv 37 (.t 4)),[],false⟩,
   ⟨.gd 29 false (.ia 38 (.t 36) (.t 37) 8),[],false⟩,
   ⟨.gd 29 false (.fa 39 (.t 38) 0),[],false⟩,
   ⟨.gd 29 false (.fa 40 (.t 39) 1),[],false⟩,
   ⟨.gd 29 false (.ld 41 (.t 40) none),[],false⟩,
   ⟨.gd 29 false (.bn 42 .neq (.t 35) (.t 41)),[],false⟩,
   ⟨.pk 43 (.t 29) (.c (.b true)) (.t 42),[],false⟩])
  (.i (.t 43) (.x 3)
  (.k)))
  (.q (.q (.o [.mv 44 (.t 5),
   .bn 45 .lss (.t 44) (.c (.i .i64 0))])
  (.i (.t 45) (.o [.mv 46 (.t 6),
   .mv 5 (.t 46)])
  (.k)))
  (.q (.p [⟨.mv 47 (.t 0),[],false⟩,
   ⟨.mv 48 (.t 6),[],false⟩,
   ⟨.ia 49 (.t 47) (.t 48) 8,[],false⟩,
   ⟨.fa 50 (.t 49) 6,[],false⟩,
   ⟨.ld 51 (.t 50) none,[],false⟩,
   ⟨.mv 52 (.t 0),[],false⟩,
   ⟨.mv 53 (.t 4),[],false⟩,
   ⟨.ia 54 (.t 52) (.t 53) 8,[],false⟩,
   ⟨.fa 55 (.t 54) 6,[],false⟩,
   ⟨.ld 56 (.t 55) none,[],false⟩,
   ⟨.bn 57 .eql (.t 51) (.t 56),[],false⟩])
  (.i (.t 57) (.o [.mv 58 (.t 0),
   .mv 59 (.t 4),
   .ia 60 (.t 58) (.t 59) 8,
   .fa 61 (.t 60) 7,
   .st (.t 61) (.c (.b true)) 1])
  (.k))))))
  (.o [.mv 16 (.t 6),
   .bn 17 .add (.t 16) (.c (.i .i64 1)),
   .mv 6 (.t 17)]))))))
  (.q (.p [⟨.mv 62 (.t 3),[],false⟩,
   ⟨.bn 63 .lss (.t 62) (.c (.i .i64 0)),[],false⟩,
   ⟨.mv 64 (.t 63),[],false⟩,
   ⟨.gd 64 true (.mv 65 (.t 5)),[],false⟩,
   ⟨.gd 64 true (.bn 66 .geq (.t 65) (.c (.i .i64 0))),[],false⟩,
   ⟨.pk 67 (.t 64) (.t 66) (.c (.b false)),[],false⟩,
   ⟨.mv 68 (.t 67),[],false⟩,
   ⟨.gd 68 true (.mv 69 (.t 0)),[],false⟩,
   ⟨.gd 68 true (.mv 70 (.t 5)),[],false⟩,
   ⟨.gd 68 true (.ia 71 (.t 69) (.t 70) 8),[],false⟩,
   ⟨.gd 68 true (.fa 72 (.t 71) 0),[],false⟩,
   ⟨.gd 68 true (.fa 73 (.t 72) 3),[],false⟩,
   ⟨.gd 68 true (.ld 74 (.t 73) none),[],false⟩,
   ⟨.gd 68 true (.mv 75 (.t 0)),[],false⟩,
   ⟨.gd 68 true (.mv 76 (.t 4)),[],false⟩,
   ⟨.gd 68 true (.ia 77 (.t 75) (.t 76) 8),[],false⟩,
   ⟨.gd 68 true (.fa 78 (.t 77) 0),[],false⟩,
   ⟨.gd 68 true (.fa 79 (.t 78) 3),[],false⟩,
   ⟨.gd 68 true (.ld 80 (.t 79) none),[],false⟩,
   ⟨.gd 68 true (.bn 81 .neq (.t 74) (.t 80)),[],false⟩,
   ⟨.pk 82 (.t 68) (.t 81) (.c (.b false)),[],false⟩])
  (.i (.t 82) (.o [.mv 83 (.t 4),
   .mv 3 (.t 83)])
  (.k))))))
  (.o [.mv 11 (.t 4),
   .bn 12 .add (.t 11) (.c (.i .i64 1)),
   .mv 4 (.t 12)]))))))
  (.q (.o [.mv 84 (.t 3),
   .mv 2 (.t 84)])
  (.r))))⟩
abbrev YN:Nat:=224
theorem Jd1:Qi Go.Proofs.Tryz.prog Xe 224=true:=by kernel_rfl
def Jo:Fn:=⟨2,[(.t 4),(.t 5)],
  .q (.o [.mv 4 (.c (.i .i64 0)),
   .mv 5 (.c (.i .i64 0))])
  (.q (.o [.mv 16 (.t 1),
   .cl (some 17) 222 [(.t 16)],
   .mv 6 (.t 17)])
  (.q (.q (.o [.mv 7 (.c (.i .i64 0))])
  (.b 0 (.l [0,6,7] (.q (.q (.o [.mv 18 (.t 7),
   .mv 19 (.t 0),
   .ln 20 (.t 19),
   .bn 21 .lss (.t 18) (.t 20)])
  (.i (.t 21) (.k)
  (.x 0)))
  (.q (.b 1 (.q (.o [.mv 24 (.t 0),
   .mv 25 (.t 7),
   .ia 26 (.t 24) (.t 25) 8,
   .fa 27 (.t 26) 7,
   .ld 28 (.t 27) none,
   .un 29 .not (.t 28),
   .mv 30 (.t 29),
   .gd 30 true (.mv 31 (.t 0)),
   .gd 30 true (.mv 32 (.t 7)),
   .gd 30 true (.ia 33 (.t 31) (.t 32) 8),
   .gd 30 true (.fa 34 (.t 33) 0),
   .gd 30 true (.fa 35 (.t 34) 1),
   .gd 30 true (.ld 36 (.t 35) none),
   .gd 30 true (.bn 37 .eql (.t 36) (.c (.i .i64 6))),
   .pk 38 (.t 30) (.t 37) (.c (.b false)),
   .mv 39 (.t 38),
   .gd 39 true (.mv 40 (.t 0)),
   .gd 39 true (.mv 41 (.t 7)),
   .gd 39 true (.ia 42 (.t 40) (.t 41) 8),
   .gd 39 true (.fa 43 (.t 42) 5),
   .gd 39 true (.ld 44 (.t 43) none),
   .gd 39 true (.mv 45 (.t 6)),
   .gd 39 true (.bn 46 .neq (.t 44) (.t 45)),
   .gd 39 true (.mv 47 (.t 46)),
   .gd 47 false (.mv 48 (.t 0)),
   .gd 47 false (.mv 49 (.t 7)),
   .gd 47 false (.mv 50 (.t 6)),
   .gd 47 false (.cl (some 51) 292 [(.t 48),(.t 49),(.t 50),(.c (.i .i64 6))]),
   .gd 39 true (.pk 52 (.t 47) (.c (.b true)) (.t 51)),
   .pk 53 (.t 39) (.t 52) (.c (.b false))])
  (.i (.t 53) (.q (.o [.mv 54 (.t 7),
   .mv 4 (.c (.i .i64 20)),
   .mv 5 (.t 54)])
  (.r))
  (.k))))
  (.o [.mv 22 (.t 7),
   .bn 23 .add (.t 22) (.c (.i .i64 1)),
   .mv 7 (.t 23)]))))))
  (.q (.q (.o [.mv 55 (.t 0),
   .mv 56 (.t 0),
   .ln 57 (.t 56),
   .mv 58 (.t 6),
   .cl (some 59) 292 [(.t 55),(.t 57),(.t 58),(.c (.i .i64 6))],
   .un 60 .not (.t 59)])
  (.i (.t 60) (.q (.o [.mv 4 (.c (.i .i64 20)),
   .mv 5 (.c (.i .i64 (-1)))])
  (.r))
  (.k)))
  (.q (.q (.o [.mv 61 (.t 0),
   .mv 62 (.t 0),
   .ln 63 (.t 62),
   .mv 64 (.t 6),
   .cl (some 65) 292 [(.t 61),(.t 63),(.t 64),(.c (.i .i64 2))],
   .un 66 .not (.t 65)])
  (.i (.t 66) (.q (.o [.mv 4 (.c (.i .i64 21)),
   .mv 5 (.c (.i .i64 (-1)))])
  (.r))
  (.k)))
  (.q (.q (.o [.mv 8 (.c (.i .i64 0))])
  (.b 2 (.l [0,8] (.q (.q (.o [.mv 67 (.t 8),
   .mv 68 (.t 0),
   .ln 69 (.t 68),
   .bn 70 .lss (.t 67) (.t 69)])
  (.i (.t 70) (.k)
  (.x 2)))
  (.q (.b 3 (.q (.o [.mv 73 (.t 0),
   .mv 74 (.t 8),
   .ia 75 (.t 73) (.t 74) 8,
   .fa 76 (.t 75) 0,
   .fa 77 (.t 76) 1,
   .ld 78 (.t 77) none,
   .mv 9 (.t 78)])
  (.q (.o [.mv 79 (.t 0),
   .mv 80 (.t 8),
   .ia 81 (.t 79) (.t 80) 8,
   .fa 82 (.t 81) 7,
   .ld 83 (.t 82) none,
   .un 84 .not (.t 83),
   .mv 85 (.t 84),
   .gd 85 true (.mv 86 (.t 0)),
   .gd 85 true (.mv 87 (.t 8)),
   .gd 85 true (.ia 88 (.t 86) (.t 87) 8),
   .gd 85 true (.fa 89 (.t 88) 5),
   .gd 85 true (.ld 90 (.t 89) none),
   .gd 85 true (.cl (some 91) 293 [(.t 90)]),
   .pk 92 (.t 85) (.t 91) (.c (.b false)),
   .mv 93 (.t 92),
   .gd 93 true (.mv 94 (.t 9)),
   .gd 93 true (.bn 95 .eql (.t 94) (.c (.i .i64 2))),
   .gd 93 true (.mv 96 (.t 95)),
   .gd 96 false (.mv 97 (.t 9)),
   .gd 96 false (.bn 98 .eql (.t 97) (.c (.i .i64 39))),
   .gd 93 true (.pk 99 (.t 96) (.c (.b true)) (.t 98)),
   .pk 100 (.t 93) (.t 99) (.c (.b false))])
  (.i (.t 100) (.q (.o [.mv 101 (.t 8),
   .mv 4 (.c (.i .i64 26)),
   .mv 5 (.t 101)])
  (.r))
  (.k)))))
  (.o [.mv 71 (.t 8),
   .bn 72 .add (.t 71) (.c (.i .i64 1)),
   .mv 8 (.t 72)]))))))
  (.q (.q (.o [.mv 10 (.c (.i .i64 0))])
  (.b 4 (.l [0,10] (.q (.q (.o [.mv 102 (.t 10),
   .mv 103 (.t 0),
   .ln 104 (.t 103),
   .bn 105 .lss (.t 102) (.t 104)])
  (.i (.t 105) (.k)
  (.x 4)))
  (.q (.b 5 (.q (.o [.mv 108 (.t 0),
   .mv 109 (.t 10),
   .ia 110 (.t 108) (.t 109) 8,
   .fa 111 (.t 110) 0,
   .fa 112 (.t 111) 1,
   .ld 113 (.t 112) none,
   .mv 11 (.t 113)])
  (.q (.o [.mv 114 (.t 0),
   .mv 115 (.t 10),
   .ia 116 (.t 114) (.t 115) 8,
   .fa 117 (.t 116) 7,
   .ld 118 (.t 117) none,
   .un 119 .not (.t 118),
   .mv 120 (.t 119),
   .gd 120 true (.mv 121 (.t 11)),
   .gd 120 true (.bn 122 .eql (.t 121) (.c (.i .i64 5))),
   .gd 120 true (.mv 123 (.t 122)),
   .gd 123 false (.mv 124 (.t 11)),
   .gd 123 false (.bn 125 .eql (.t 124) (.c (.i .i64 39))),
   .gd 120 true (.pk 126 (.t 123) (.c (.b true)) (.t 125)),
   .pk 127 (.t 120) (.t 126) (.c (.b false)),
   .mv 128 (.t 127),
   .gd 128 true (.mv 129 (.t 0)),
   .gd 128 true (.mv 130 (.t 10)),
   .gd 128 true (.mv 131 (.t 0)),
   .gd 128 true (.mv 132 (.t 10)),
   .gd 128 true (.ia 133 (.t 131) (.t 132) 8),
   .gd 128 true (.fa 134 (.t 133) 5),
   .gd 128 true (.ld 135 (.t 134) none),
   .gd 128 true (.mv 136 (.t 11)),
   .gd 128 true (.cl (some 137) 292 [(.t 129),(.t 130),(.t 135),(.t 136)]),
   .pk 138 (.t 128) (.t 137) (.c (.b false))])
  (.i (.t 138) (.q (.o [.mv 139 (.t 10),
   .mv 4 (.c (.i .i64 23)),
   .mv 5 (.t 139)])
  (.r))
  (.k)))))
  (.o [.mv 106 (.t 10),
   .bn 107 .add (.t 106) (.c (.i .i64 1)),
   .mv 10 (.t 107)]))))))
  (.q (.q (.o [.mv 12 (.c (.i .i64 0))])
  (.b 6 (.l [0,12] (.q (.q (.o [.mv 140 (.t 12),
   .mv 141 (.t 0),
   .ln 142 (.t 141),
   .bn 143 .lss (.t 140) (.t 142)])
  (.i (.t 143) (.k)
  (.x 6)))
  (.q (.b 7 (.q (.o [.mv 146 (.t 0),
   .mv 147 (.t 12),
   .ia 148 (.t 146) (.t 147) 8,
   .fa 149 (.t 148) 0,
   .fa 150 (.t 149) 1,
   .ld 151 (.t 150) none,
   .mv 13 (.t 151)])
  (.q (.o [.mv 152 (.t 0),
   .mv 153 (.t 12),
   .ia 154 (.t 152) (.t 153) 8,
   .fa 155 (.t 154) 7,
   .ld 156 (.t 155) none,
   .un 157 .not (.t 156),
   .mv 158 (.t 157),
   .gd 158 true (.mv 159 (.t 13)),
   .gd 158 true (.bn 160 .neq (.t 159) (.c (.i .i64 5))),
   .pk 161 (.t 158) (.t 160) (.c (.b false)),
   .mv 162 (.t 161),
   .gd 162 true (.mv 163 (.t 13)),
   .gd 162 true (.bn 164 .neq (.t 163) (.c (.i .i64 47))),
   .pk 165 (.t 162) (.t 164) (.c (.b false)),
   .mv 166 (.t 165),
   .gd 166 true (.mv 167 (.t 0)),
   .gd 166 true (.mv 168 (.t 0)),
   .gd 166 true (.ln 169 (.t 168)),
   .gd 166 true (.mv 170 (.t 0)),
   .gd 166 true (.mv 171 (.t 12)),
   .gd 166 true (.ia 172 (.t 170) (.t 171) 8),
   .gd 166 true (.fa 173 (.t 172) 5),
   .gd 166 true (.ld 174 (.t 173) none),
   .gd 166 true (.cl (some 175) 292 [(.t 167),(.t 169),(.t 174),(.c (.i .i64 5))]),
   .pk 176 (.t 166) (.t 175) (.c (.b false))])
  (.i (.t 176) (.q (.o [.mv 177 (.t 12),
   .mv 4 (.c (.i .i64 23)),
   .mv 5 (.t 177)])
  (.r))
  (.k)))))
  (.o [.mv 144 (.t 12),
   .bn 145 .add (.t 144) (.c (.i .i64 1)),
   .mv 12 (.t 145)]))))))
  (.q (.q (.o [.mv 14 (.c (.i .i64 0))])
  (.b 8 (.l [0,14] (.q (.q (.o [.mv 178 (.t 14),
   .mv 179 (.t 0),
   .ln 180 (.t 179),
   .bn 181 .lss (.t 178) (.t 180)])
  (.i (.t 181) (.k)
  (.x 8)))
  (.q (.b 9 (.q (.o [.mv 15 (.c (.i .i64 0))])
  (.b 10 (.l [0,14,15] (.q (.q (.o [.mv 184 (.t 15),
   .mv 185 (.t 0),
   .ln 186 (.t 185),
   .bn 187 .lss (.t 184) (.t 186),
   .mv 188 (.t 187),
   .gd 188 true (.mv 189 (.t 0)),
   .gd 188 true (.mv 190 (.t 14)),
   .gd 188 true (.ia 191 (.t 189) (.t 190) 8),
   .gd 188 true (.fa 192 (.t 191) 7),
   .gd 188 true (.ld 193 (.t 192) none),
   .gd 188 true (.un 194 .not (.t 193)),
   .pk 195 (.t 188) (.t 194) (.c (.b false))])
  (.i (.t 195) (.k)
  (.x 10)))
  (.q (.b 11 (.q (.p [⟨.mv 198 (.t 0),[],false⟩,
   ⟨.mv 199 (.t 15),[],false⟩,
   ⟨.ia 200 (.t 198) (.t 199) 8,[],false⟩,
   ⟨.fa 201 (.t 200) 7,[],false⟩,
   ⟨.ld 202 (.t 201) none,[],false⟩,
   ⟨.un 203 .not (.t 202),[],false⟩,
   ⟨.mv 204 (.t 203),[],false⟩,
   ⟨.gd 204 true (.mv 205 (.t 0)),[],false⟩,
   ⟨.gd 204 true (.mv 206 (.t 15)),[],false⟩,
   ⟨.gd 204 true (.ia 207 (.t 205) (.t 206) 8),[],false⟩,
   ⟨.gd 204 true (.fa 208 (.t 207) 0),[],false⟩,
   ⟨.gd 204 true (.fa 209 (.t 208) 1),[],false⟩,
   ⟨.gd 204 true (.ld 210 (.t 209) none),[],false⟩,
   ⟨.gd 204 true (.bn 211 .eql (.t 210) (.c (.i .i64 39))),[],false⟩,
   ⟨.pk 212 (.t 204) (.t 211) (.c (.b false)),[],false⟩,
   ⟨.mv 213 (.t 212),[],false⟩,
   ⟨.gd 213 true (.mv 214 (.t 0)),[],false⟩,
   ⟨.gd 213 true (.mv 215 (.t 15)),[],false⟩,
   ⟨.gd 213 true (.ia 216 (.t 214) (.t 215) 8),[],false⟩,
   ⟨.gd 213 true (.fa 217 (.t 216) 5),[],false⟩,
   ⟨.gd 213 true (.ld 218 (.t 217) none),[],false⟩,
   ⟨.gd 213 true (.mv 219 (.t 0)),[],false⟩,
   ⟨.gd 213 true (.mv 220 (.t 14)),[],false⟩,
   ⟨.gd 213 true (.ia 221 (.t 219) (.t 220) 8),[],false⟩,
   ⟨.gd 213 true (.fa 222 (.t 221) 5),[],false⟩,
   ⟨.gd 213 true (.ld 223 (.t 222) none),[],false⟩,
   ⟨.gd 213 true (.bn 224 .neq (.t 218) (.t 223)),[],false⟩,
   ⟨.pk 225 (.t 213) (.t 224) (.c (.b false)),[],false⟩,
   ⟨.mv 226 (.t 225),[],false⟩,
   ⟨.gd 226 true (.mv 227 (.t 0)),[],false⟩,
   ⟨.gd 226 true (.mv 228 (.t 14)),[],false⟩,
   ⟨.gd 226 true (.ia 229 (.t 227) (.t 228) 8),[],false⟩,
   ⟨.gd 226 true (.fa 230 (.t 229) 5),[],false⟩,
   ⟨.gd 226 true (.ld 231 (.t 230) none),[],false⟩,
   ⟨.gd 226 true (.mv 232 (.t 0)),[],false⟩,
   ⟨.gd 226 true (.mv 233 (.t 15)),[],false⟩,
   ⟨.gd 226 true (.ia 234 (.t 232) (.t 233) 8),[],false⟩,
   ⟨.gd 226 true (.fa 235 (.t 234) 5),[],false⟩,
   ⟨.gd 226 true (.ld 236 (.t 235) none),[],false⟩,
   ⟨.gd 226 true (.cl (some 237) 228 [(.t 231),(.t 236)]),[],false⟩,
   ⟨.pk 238 (.t 226) (.t 237) (.c (.b false)),[],false⟩])
  (.i (.t 238) (.q (.o [.mv 239 (.t 14),
   .mv 4 (.c (.i .i64 25)),
   .mv 5 (.t 239)])
  (.r))
  (.k))))
  (.o [.mv 196 (.t 15),
   .bn 197 .add (.t 196) (.c (.i .i64 1)),
   .mv 15 (.t 197)])))))))
  (.o [.mv 182 (.t 14),
   .bn 183 .add (.t 182) (.c (.i .i64 1)),
   .mv 14 (.t 183)]))))))
  (.q (.o [.mv 4 (.c (.i .i64 0)),
   .mv 5 (.c (.i .i64 0))])
  (.r))))))))))⟩
abbrev Yv:Nat:=225
theorem Jee:Qi Go.Proofs.Tryz.prog Jo 225=true:=by kernel_rfl
def QC:Fn:=⟨1,[(.t 2)],
  .q (.o [.mv 2 (.c .ns)])
  (.q (.q (.o [.mv 8 (.t 0),
   .ln 9 (.t 8),
   .bn 10 .lss (.t 9) (.c (.i .i64 2))])
  (.i (.t 10) (.q (.o [.mv 11 (.t 0),
   .mv 2 (.t 11)])
  (.r))
  (.k)))
  (.q (.o [.mv 12 (.t 0),
   .mv 13 (.t 0),
   .ln 14 (.t 13),
   .bn 15 .quo (.t 14) (.c (.i .i64 2)),
   .sl 16 (.t 12) none (some (.t 15)) 8,
   .cl (some 17) 226 [(.t 16)],
   .mv 3 (.t 17)])
  (.q (.o [.mv 18 (.t 0),
   .mv 19 (.t 0),
   .ln 20 (.t 19),
   .bn 21 .quo (.t 20) (.c (.i .i64 2)),
   .sl 22 (.t 18) (some (.t 21)) none 8,
   .cl (some 23) 226 [(.t 22)],
   .mv 4 (.t 23)])
  (.q (.o [.bs 24 (.ag [(.s []),(.i .i64 0),(.i .i64 0),(.i .i64 0),(.s []),(.s []),(.s []),(.b false)]) 8 0 [],
   .mv 5 (.t 24)])
  (.q (.o [.mv 6 (.c (.i .i64 0))])
  (.q (.o [.mv 7 (.c (.i .i64 0))])
  (.q (.b 0 (.l [3,4,5,6,7] (.q (.q (.o [.mv 25 (.t 6),
   .mv 26 (.t 3),
   .ln 27 (.t 26),
   .bn 28 .lss (.t 25) (.t 27),
   .mv 29 (.t 28),
   .gd 29 false (.mv 30 (.t 7)),
   .gd 29 false (.mv 31 (.t 4)),
   .gd 29 false (.ln 32 (.t 31)),
   .gd 29 false (.bn 33 .lss (.t 30) (.t 32)),
   .pk 34 (.t 29) (.c (.b true)) (.t 33)])
  (.i (.t 34) (.k)
  (.x 0)))
  (.b 1 (.q (.p [⟨.mv 35 (.t 7),[],false⟩,
   ⟨.mv 36 (.t 4),[],false⟩,
   ⟨.ln 37 (.t 36),[],false⟩,
   ⟨.bn 38 .eql (.t 35) (.t 37),[],false⟩,
   ⟨.mv 39 (.t 38),[],false⟩,
   ⟨.gd 39 false (.mv 40 (.t 6)),[],false⟩,
   ⟨.gd 39 false (.mv 41 (.t 3)),[],false⟩,
   ⟨.gd 39 false (.ln 42 (.t 41)),[],false⟩,
   ⟨.gd 39 false (.bn 43 .lss (.t 40) (.t 42)),[],false⟩,
   ⟨.gd 39 false (.mv 44 (.t 43)),[],false⟩,
   ⟨.gd 44 true (.mv 45 (.t 3)),[],false⟩,
   ⟨.gd 44 true (.mv 46 (.t 6)),[],false⟩,
   ⟨.gd 44 true (.ia 47 (.t 45) (.t 46) 8),[],false⟩,
   ⟨.gd 44 true (.ld 48 (.t 47) (some 8)),[],false⟩,
   ⟨.gd 44 true (.mv 49 (.t 4)),[],false⟩,
   ⟨.gd 44 true (.mv 50 (.t 7)),[],false⟩,
   ⟨.gd 44 true (.ia 51 (.t 49) (.t 50) 8),[],false⟩,
   ⟨.gd 44 true (.ld 52 (.t 51) (some 8)),[],false⟩,
   ⟨.gd 44 true (.cl (some 53) 294 [(.t 48),(.t 52)]),[],false⟩,
   ⟨.gd 39 false (.pk 54 (.t 44) (.t 53) (.c (.b false))),[],false⟩,
   ⟨.pk 55 (.t 39) (.c (.b true)) (.t 54),[],false⟩])
  (.i (.t 55) (.q (.o [.mv 56 (.t 5),
   .mv 57 (.t 3),
   .mv 58 (.t 6),
   .ia 59 (.t 57) (.t 58) 8,
   .ld 60 (.t 59) (some 8),
   .lbs 61 (.ag [(.s []),(.i .i64 0),(.i .i64 0),(.i .i64 0),(.s []),(.s []),(.s []),(.b false)]) 8 1 [(0,(.t 60))],
   .ap 62 (.t 56) (.t 61) 8 96,
   .mv 5 (.t 62)])
  (.o [.mv 63 (.t 6),
   .bn 64 .add (.t 63) (.c (.i .i64 1)),
   .mv 6 (.t 64)]))
  (.q (.o [.mv 65 (.t 5),
   .mv 66 (.t 4),
   .mv 67 (.t 7),
   .ia 68 (.t 66) (.t 67) 8,
   .ld 69 (.t 68) (some 8),
   .lbs 70 (.ag [(.s []),(.i .i64 0),(.i .i64 0),(.i .i64 0),(.s []),(.s []),(.s []),(.b false)]) 8 1 [(0,(.t 69))],
   .ap 71 (.t 65) (.t 70) 8 96,
   .mv 5 (.t 71)])
  (.o [.mv 72 (.t 7),
   .bn 73 .add (.t 72) (.c (.i .i64 1)),
   .mv 7 (.t 73)]))))))))
  (.q (.o [.mv 74 (.t 5),
   .mv 2 (.t 74)])
  (.r)))))))))⟩
abbrev WM:Nat:=226
theorem Jfr:Qi Go.Proofs.Tryz.prog QC 226=true:=by kernel_rfl
def Xx:Fn:=⟨2,[(.t 4)],
  .q (.o [.mv 4 (.c (.s []))])
  (.q (.q (.o [.mv 5 (.c (.i .i64 0))])
  (.b 0 (.l [0,1,5] (.q (.q (.o [.mv 6 (.t 5),
   .mv 7 (.t 0),
   .ln 8 (.t 7),
   .bn 9 .lss (.t 6) (.t 8)])
  (.i (.t 9) (.k)
  (.x 0)))
  (.q (.b 1 (.q (.o [.mv 12 (.t 0),
   .mv 13 (.t 5),
   .ia 14 (.t 12) (.t 13) 8,
   .fa 15 (.t 14) 5,
   .ld 16 (.t 15) none,
   .mv 17 (.t 1),
   .bn 18 .eql (.t 16) (.t 17)])
  (.i (.t 18) (.q (.o [.mv 19 (.t 0),
   .mv 20 (.t 5),
   .ia 21 (.t 19) (.t 20) 8,
   .fa 22 (.t 21) 0,
   .fa 23 (.t 22) 0,
   .ld 24 (.t 23) none,
   .mv 4 (.t 24)])
  (.r))
  (.k))))
  (.o [.mv 10 (.t 5),
   .bn 11 .add (.t 10) (.c (.i .i64 1)),
   .mv 5 (.t 11)]))))))
  (.q (.o [.mv 25 (.t 1),
   .mv 4 (.t 25)])
  (.r)))⟩
abbrev XH:Nat:=227
theorem JeS:Qi Go.Proofs.Tryz.prog Xx 227=true:=by kernel_rfl
def Wi:Fn:=⟨2,[(.t 4)],
  .q (.o [.lbx 2 (.t 0),
   .lbx 3 (.t 1),
   .mv 4 (.c (.b false))])
  (.q (.q (.o [.fa 6 (.t 2) 0,
   .ld 7 (.t 6) none,
   .fa 8 (.t 3) 0,
   .ld 9 (.t 8) none,
   .bn 10 .neq (.t 7) (.t 9),
   .mv 11 (.t 10),
   .gd 11 false (.fa 12 (.t 2) 1),
   .gd 11 false (.ld 13 (.t 12) none),
   .gd 11 false (.fa 14 (.t 3) 1),
   .gd 11 false (.ld 15 (.t 14) none),
   .gd 11 false (.bn 16 .neq (.t 13) (.t 15)),
   .pk 17 (.t 11) (.c (.b true)) (.t 16),
   .mv 18 (.t 17),
   .gd 18 false (.fa 19 (.t 2) 2),
   .gd 18 false (.ld 20 (.t 19) none),
   .gd 18 false (.fa 21 (.t 3) 2),
   .gd 18 false (.ld 22 (.t 21) none),
   .gd 18 false (.bn 23 .neq (.t 20) (.t 22)),
   .pk 24 (.t 18) (.c (.b true)) (.t 23),
   .mv 25 (.t 24),
   .gd 25 false (.fa 26 (.t 2) 3),
   .gd 25 false (.ld 27 (.t 26) none),
   .gd 25 false (.ln 28 (.t 27)),
   .gd 25 false (.fa 29 (.t 3) 3),
   .gd 25 false (.ld 30 (.t 29) none),
   .gd 25 false (.ln 31 (.t 30)),
   .gd 25 false (.bn 32 .neq (.t 28) (.t 31)),
   .pk 33 (.t 25) (.c (.b true)) (.t 32)])
  (.i (.t 33) (.q (.o [.mv 4 (.c (.b false))])
  (.r))
  (.k)))
  (.q (.q (.o [.mv 5 (.c (.i .i64 0))])
  (.b 0 (.l [2,3,5] (.q (.q (.o [.mv 34 (.t 5),
   .fa 35 (.t 2) 3,
   .ld 36 (.t 35) none,
   .ln 37 (.t 36),
   .bn 38 .lss (.t 34) (.t 37)])
  (.i (.t 38) (.k)
  (.x 0)))
  (.q (.b 1 (.q (.p [⟨.fa 41 (.t 2) 3,[],false⟩,
   ⟨.ld 42 (.t 41) none,[],false⟩,
   ⟨.mv 43 (.t 5),[],false⟩,
   ⟨.ia 44 (.t 42) (.t 43) 1,[],false⟩,
   ⟨.ld 45 (.t 44) none,[],false⟩,
   ⟨.fa 46 (.t 3) 3,[],false⟩,
   ⟨.ld 47 (.t 46) none,[],false⟩,
   ⟨.mv 48 (.t 5),[],false⟩,
   ⟨.ia 49 (.t 47) (.t 48) 1,[],false⟩,
   ⟨.ld 50 (.t 49) none,[],false⟩,
   ⟨.bn 51 .neq (.t 45) (.t 50),[],false⟩])
  (.i (.t 51) (.q (.o [.mv 4 (.c (.b false))])
  (.r))
  (.k))))
  (.o [.mv 39 (.t 5),
   .bn 40 .add (.t 39) (.c (.i .i64 1)),
   .mv 5 (.t 40)]))))))
  (.q (.o [.mv 4 (.c (.b true))])
  (.r))))⟩
abbrev XO:Nat:=245
theorem Jc4:Qi Go.Proofs.Tryz.prog Wi 245=true:=by kernel_rfl
def YP:Fn:=⟨4,[(.t 8)],
  .q (.o [.mv 8 (.c (.b false))])
  (.q (.q (.o [.mv 9 (.c (.i .i64 0))])
  (.b 0 (.l [0,1,2,3,9] (.q (.q (.o [.mv 10 (.t 9),
   .mv 11 (.t 1),
   .bn 12 .lss (.t 10) (.t 11)])
  (.i (.t 12) (.k)
  (.x 0)))
  (.q (.b 1 (.q (.o [.mv 15 (.t 0),
   .mv 16 (.t 9),
   .ia 17 (.t 15) (.t 16) 8,
   .fa 18 (.t 17) 7,
   .ld 19 (.t 18) none,
   .un 20 .not (.t 19),
   .mv 21 (.t 20),
   .gd 21 true (.mv 22 (.t 0)),
   .gd 21 true (.mv 23 (.t 9)),
   .gd 21 true (.ia 24 (.t 22) (.t 23) 8),
   .gd 21 true (.fa 25 (.t 24) 5),
   .gd 21 true (.ld 26 (.t 25) none),
   .gd 21 true (.mv 27 (.t 2)),
   .gd 21 true (.bn 28 .eql (.t 26) (.t 27)),
   .pk 29 (.t 21) (.t 28) (.c (.b false)),
   .mv 30 (.t 29),
   .gd 30 true (.mv 31 (.t 0)),
   .gd 30 true (.mv 32 (.t 9)),
   .gd 30 true (.ia 33 (.t 31) (.t 32) 8),
   .gd 30 true (.fa 34 (.t 33) 0),
   .gd 30 true (.fa 35 (.t 34) 1),
   .gd 30 true (.ld 36 (.t 35) none),
   .gd 30 true (.mv 37 (.t 3)),
   .gd 30 true (.bn 38 .eql (.t 36) (.t 37)),
   .pk 39 (.t 30) (.t 38) (.c (.b false))])
  (.i (.t 39) (.q (.o [.mv 8 (.c (.b true))])
  (.r))
  (.k))))
  (.o [.mv 13 (.t 9),
   .bn 14 .add (.t 13) (.c (.i .i64 1)),
   .mv 9 (.t 14)]))))))
  (.q (.o [.mv 8 (.c (.b false))])
  (.r)))⟩
abbrev Wv:Nat:=292
theorem Jgw:Qi Go.Proofs.Tryz.prog YP 292=true:=by kernel_rfl
def Wn:Fn:=⟨1,[(.t 2)],
  .q (.o [.mv 2 (.c (.b false))])
  (.q (.o [.mv 3 (.t 0),
   .lns 4 (.t 3),
   .bn 5 .gtr (.t 4) (.c (.i .i64 1)),
   .mv 6 (.t 5),
   .gd 6 true (.mv 7 (.t 0)),
   .gd 6 true (.ss 8 (.t 7) none (some (.c (.i .i64 2)))),
   .gd 6 true (.bn 9 .eql (.t 8) (.c (.s [1,42]))),
   .pk 10 (.t 6) (.t 9) (.c (.b false)),
   .mv 2 (.t 10)])
  (.r))⟩
abbrev Wm:Nat:=293
theorem JcZ:Qi Go.Proofs.Tryz.prog Wn 293=true:=by kernel_rfl
def WJ:Fn:=⟨2,[(.t 4)],
  .q (.o [.lbx 2 (.t 0),
   .lbx 3 (.t 1),
   .mv 4 (.c (.b false))])
  (.q (.q (.o [.fa 5 (.t 2) 5,
   .ld 6 (.t 5) none,
   .fa 7 (.t 3) 5,
   .ld 8 (.t 7) none,
   .bn 9 .neq (.t 6) (.t 8)])
  (.i (.t 9) (.q (.o [.fa 10 (.t 2) 5,
   .ld 11 (.t 10) none,
   .fa 12 (.t 3) 5,
   .ld 13 (.t 12) none,
   .cl (some 14) 124 [(.t 11),(.t 13)],
   .bn 15 .lss (.t 14) (.c (.i .i64 0)),
   .mv 4 (.t 15)])
  (.r))
  (.k)))
  (.q (.q (.o [.fa 16 (.t 2) 0,
   .fa 17 (.t 16) 1,
   .ld 18 (.t 17) none,
   .fa 19 (.t 3) 0,
   .fa 20 (.t 19) 1,
   .ld 21 (.t 20) none,
   .bn 22 .neq (.t 18) (.t 21)])
  (.i (.t 22) (.q (.o [.fa 23 (.t 2) 0,
   .fa 24 (.t 23) 1,
   .ld 25 (.t 24) none,
   .fa 26 (.t 3) 0,
   .fa 27 (.t 26) 1,
   .ld 28 (.t 27) none,
   .bn 29 .lss (.t 25) (.t 28),
   .mv 4 (.t 29)])
  (.r))
  (.k)))
  (.q (.o [.fa 30 (.t 2) 6,
   .ld 31 (.t 30) none,
   .fa 32 (.t 3) 6,
   .ld 33 (.t 32) none,
   .bn 34 .lss (.t 31) (.t 33),
   .mv 4 (.t 34)])
  (.r))))⟩
abbrev QM:Nat:=294
theorem Jdj:Qi Go.Proofs.Tryz.prog WJ 294=true:=by kernel_rfl
def eI:Enc (Zi×Bool):=⟨8,fun x=>[.s x.1.r.o,.i .i64 x.1.r.t,.i .i64 x.1.r.c,.i .i64 x.1.r.ttl,.s x.1.r.d,.s x.1.f,.s x.1.g,.b x.2],fun _=>rfl⟩
def Je9 (L:List Zi):List (Zi×Bool):=(List.range L.length).map fun i=>(itZ L i,WN L i)
theorem QY (L:List Zi):(Je9 L).length=L.length:=by simp [Je9]
theorem ZO {L:List Zi} {i:Nat} (h:i < (Je9 L).length):(Je9 L)[i]=(itZ L i,WN L i):=by simp [Je9]
theorem JuV (o o':Nat) (a:AV) (h:faC a):faV o (faV o' a)=faV (o'+o) a:=by
 cases a<;>first | exact h.elim | simp [faV,Nat.add_assoc]
structure JwQ (H:AH) (a:AV) (i:Nat) (x:Zi×Bool):Prop where
 z:slZ H 8 a
 c:iaC (i:Int) a
 fa: ∀ o,faC (faV o (iaV i a))
 f0:faC (iaV i a)
 fv: ∀ o o',faV o (faV o' (iaV i a))=faV (o'+o) (iaV i a)
 ld: ∀ (o:Nat) (L:List Lv) (g:Nat),o < 8→ldC ⟨L,g,H⟩ none (faV o (iaV i a))
 v0: ∀ (L:List Lv) (g:Nat),ldX ⟨L,g,H⟩ none (faV 0 (iaV i a))= .s x.1.r.o
 v1: ∀ (L:List Lv) (g:Nat),ldX ⟨L,g,H⟩ none (faV 1 (iaV i a))= .i .i64 x.1.r.t
 v3: ∀ (L:List Lv) (g:Nat),ldX ⟨L,g,H⟩ none (faV 3 (iaV i a))= .i .i64 x.1.r.ttl
 v4: ∀ (L:List Lv) (g:Nat),ldX ⟨L,g,H⟩ none (faV 4 (iaV i a))= .s x.1.r.d
 v5: ∀ (L:List Lv) (g:Nat),ldX ⟨L,g,H⟩ none (faV 5 (iaV i a))= .s x.1.f
 v6: ∀ (L:List Lv) (g:Nat),ldX ⟨L,g,H⟩ none (faV 6 (iaV i a))= .s x.1.g
 v7: ∀ (L:List Lv) (g:Nat),ldX ⟨L,g,H⟩ none (faV 7 (iaV i a))= .b x.2
 wc: ∀ (L:List Lv) (g:Nat),ldC ⟨L,g,H⟩ (some 8) (iaV i a)
 wv: ∀ (L:List Lv) (g:Nat),ldX ⟨L,g,H⟩ (some 8) (iaV i a)=eI.v x
 rc: ∀ (L:List Lv) (g:Nat),ldC ⟨L,g,H⟩ (some 5) (faV 0 (iaV i a))
 rv: ∀ (L:List Lv) (g:Nat),ldX ⟨L,g,H⟩ (some 5) (faV 0 (iaV i a))=eR.v x.1.r
theorem Ja5 {H:AH} {a:AV} {xs:List (Zi×Bool)} (h:Sx H eI a xs) {i:Nat} (hi:i < xs.length):JwQ H a i xs[i]:=by
 obtain ⟨b1,b2,b3,-,-⟩:=Sx.fdn (z:=8) h rfl hi (off:=0) (by decide)
 have hg:(xs.map eI.v).getD i .u=eI.v xs[i]:=Jhw hi
 obtain ⟨-,-,-,h4⟩:=Sl.ia h (j:=i) (by omega) (by simpa using hi)
 rw [Jj,hg] at h4
 have part0:partOf (eI.v xs[i]).cells 0 (some 8)=eI.v xs[i]:=JoA (E:=eI) xs[i]
 have f8:(eI.v xs[i]).cells.length=8:=rfl
 have hv: ∀ (o:Nat) (L:List Lv) (g:Nat),o < 8→ldC ⟨L,g,H⟩ none (faV o (iaV i a))∧ldX ⟨L,g,H⟩ none (faV o (iaV i a))=(eI.fn xs[i]).getD o .u:=fun o L g ho=>h4 L g o none (by simp only [JF,f8];exact ho)
 refine ⟨b1,b2,fun o=> ?_,b3,fun o o'=>JuV o o' _ b3,fun o L g ho=>(hv o L g ho).1,fun L g=>(hv 0 L g (by decide)).2,fun L g=>(hv 1 L g (by decide)).2,fun L g=>(hv 3 L g (by decide)).2,fun L g=>(hv 4 L g (by decide)).2,fun L g=>(hv 5 L g (by decide)).2,fun L g=>(hv 6 L g (by decide)).2,fun L g=>(hv 7 L g (by decide)).2,fun L g=> ?_,fun L g=> ?_,fun L g=> ?_,fun L g=> ?_⟩
 ·revert b3
  cases iaV i a<;>intro b3<;>first | exact b3.elim | trivial
 ·have:=(h4 L g 0 (some 8) (by simp only [JF,f8];omega)).1
  rwa [fa0] at this
 ·have:=(h4 L g 0 (some 8) (by simp only [JF,f8];omega)).2
  rw [fa0] at this
  rw [this,part0]
 ·exact (h4 L g 0 (some 5) (by simp only [JF,f8];omega)).1
 ·exact (h4 L g 0 (some 5) (by simp only [JF,f8];omega)).2
section
variable {C:Tab}
def JjI (C:Tab) (f:Nat):Prop:= ∀ (a:AV) (L:List Zi) (n:Nat) (fo:List UInt8) (t:Int) (H:AH),Sx H eI a (Je9 L)→n≤L.length→L.length≤1000→C f [a,.i .i64 n,.s fo,.i .i64 t] H=some (.b (hasB L n fo t),H)
def Jjn (C:Tab) (f:Nat):Prop:= ∀ (s:List UInt8) (H:AH),C f [.s s] H=some (.b (Jh7 s),H)
def JmI (C:Tab) (f:Nat):Prop:= ∀ (x y:Zi) (bx by':Bool) (H:AH),x.f.length≤1099511627776→y.f.length≤1099511627776→C f [eI.v (x,bx),eI.v (y,by')] H=some (.b (JqV x y),H)
def Jne (C:Tab) (f:Nat):Prop:= ∀ (a:AV) (L:List Zi) (fo:List UInt8) (H:AH),Sx H eI a (Je9 L)→L.length≤1000→C f [a,.s fo] H=some (.s (W9 L fo),H)
def JmG (C:Tab) (f:Nat):Prop:= ∀ (r:Rr) (apex:List UInt8) (H:AH),r.o.length≤1099511627776→r.d.length≤1099511627776→apex.length≤1099511627776→C f [eR.v r,.s apex] H=some (.i .i64 (Jai r apex),H)
theorem JmX {L:List Zi} {n i:Nat} {fo:List UInt8} {t:Int} (hi:i < n) (h1:WN L i=false) (h2:(itZ L i).f=fo) (h3:(itZ L i).r.t=t):hasB L n fo t=true:=by
 unfold hasB
 rw [List.any_eq_true]
 exact ⟨i,List.mem_range.2 hi,by simp [h1,h2,h3]⟩
theorem Jql {L:List Zi} {n:Nat} {fo:List UInt8} {t:Int} (h: ∀ i,i < n→WN L i=true∨(itZ L i).f≠fo∨(itZ L i).r.t≠t):hasB L n fo t=false:=by
 rw [←Bool.not_eq_true]
 unfold hasB
 rw [List.any_eq_true]
 rintro ⟨i,hi,hh⟩
 simp only [Bool.and_eq_true,Bool.not_eq_true',decide_eq_true_eq] at hh
 rcases h i (List.mem_range.1 hi) with h1 | h1 | h1
 ·rw [h1] at hh;simp at hh
 ·exact h1 hh.2.1
 ·exact h1 hh.2.2
theorem Jrn {s:List UInt8} {H:AH}:Jt C Wn [.s s] H fun v H'=>v= .b (Jh7 s)∧QA H H':=by
 unfold Jt Wn
 have hk:=JA H
 unfold Jh7
 by_cases h:(1:Int) < s.length
 ·have e:(0:Int)≤2:=by decide
  have e2:(2:Int)≤s.length:=by omega
  by_cases h2:s.take 2=[1,42]
  ·simp -implicitDefEqProofs only [bU,reduceIte,Jc,reduceCtorEq,Ja,Jb,bT,Jd,Je,Jf,h,e,e2,Jd,List.drop_zero,h2,Jr,rsC,rsV,Js]
   exact ⟨by simp;omega,hk⟩
  ·simp -implicitDefEqProofs only [bU,reduceIte,Jc,reduceCtorEq,Ja,Jb,bT,Jd,Je,Jf,h,e,e2,Jd,List.drop_zero,h2,Jr,rsC,rsV,Js]
   exact ⟨by simp [h2],hk⟩
 ·simp -implicitDefEqProofs only [bU,reduceIte,Jc,reduceCtorEq,Ja,Jb,bT,Jd,Je,Jf,h,Jr,rsC,rsV,Js]
  exact ⟨by simp;omega,hk⟩
theorem Ju9 {a:AV} {L:List Zi} {n:Nat} {fo:List UInt8} {t:Int} {H:AH} (hs:Sx H eI a (Je9 L)) (hn:n≤L.length) (hl:L.length≤1000):Jt C YP [a,.i .i64 n,.s fo,.i .i64 t] H fun v H'=>v= .b (hasB L n fo t)∧QA H H':=by
 unfold Jt YP
 have hk:=JA H
 simp -implicitDefEqProofs only [bU,reduceIte,Jc,reduceCtorEq,Ja,Jb,bT,Jd,Je,Jf]
 refine Jl (fun m e M=> ∃ (i:Nat) (g:Nat),i≤n∧m=n-i∧look e 0=a∧look e 1= .i .i64 n∧look e 2= .s fo∧look e 3= .i .i64 t∧look e 9= .i .i64 i∧M=⟨[],g,H⟩∧ ∀ j,j < i→WN L j=true∨(itZ L j).f≠fo∨(itZ L j).r.t≠t) ?_ (n:=n)
  ⟨0,_,by omega,by omega,rfl,rfl,rfl,rfl,rfl,rfl,fun j hj=>by omega⟩
 rintro m e M ⟨i,g,hi,rfl,q0,q1,q2,q3,q9,rfl,hp⟩
 by_cases h1:(i:Int) < n
 ·have hin:i < n:=by omega
  have hx:=Ja5 hs (i:=i) (by rw [QY];omega)
  rw [ZO] at hx
  obtain ⟨z,c,fa,f0,fv,ld,v0,v1,v3,v4,v5,v6,v7,-,-,-,-⟩:=hx
  simp only at v0 v1 v3 v4 v5 v6 v7
  have w9:IntKind.i64.wrap ((i:Int)+1)=((i+1:Nat):Int):=by rw [w64 (by omega) (by omega)];rfl
  have bd:n- (i+1) < n-i:=by omega
  have nx:(WN L i=true∨(itZ L i).f≠fo∨(itZ L i).r.t≠t)→ ∀ j,j < i+1→WN L j=true∨(itZ L j).f≠fo∨(itZ L j).r.t≠t:=fun h j hj=>by
   by_cases e:j=i
   ·subst e;exact h
   ·exact hp j (by omega)
  cases ho:WN L i with
  | true=>
   rw [ho] at v7
   simp -implicitDefEqProofs only [bU,reduceIte,Jc,reduceCtorEq,Ja,Jb,bT,Jd,Je,Jf,bV,Ja,Jb,Jg,q0,q1,q2,q3,q9,h1,Jj,z,c,fa,f0,fv,ld,v7,w9]
   exact ⟨_,bd,i+1,_,hin,rfl,rfl,rfl,nx (.inl ho)⟩
  | false=>
   rw [ho] at v7
   by_cases hf:(itZ L i).f=fo
   ·rw [hf] at v5
    by_cases ht:(itZ L i).r.t=t
    ·rw [ht] at v1
     simp -implicitDefEqProofs only [bU,reduceIte,Jc,reduceCtorEq,Ja,Jb,bT,Jd,Je,Jf,bV,Ja,Jb,Jg,q0,q1,q2,q3,q9,h1,Jj,z,c,fa,f0,fv,ld,v7,v5,v1,Jr,rsC,rsV,Js]
     exact ⟨by rw [JmX hin ho hf ht],hk⟩
    ·simp -implicitDefEqProofs only [bU,reduceIte,Jc,reduceCtorEq,Ja,Jb,bT,Jd,Je,Jf,bV,Ja,Jb,Jg,q0,q1,q2,q3,q9,h1,Jj,z,c,fa,f0,fv,ld,v7,v5,v1,ht,w9]
     exact ⟨_,bd,i+1,_,hin,rfl,rfl,rfl,nx (.inr (.inr ht))⟩
   ·simp -implicitDefEqProofs only [bU,reduceIte,Jc,reduceCtorEq,Ja,Jb,bT,Jd,Je,Jf,bV,Ja,Jb,Jg,q0,q1,q2,q3,q9,h1,Jj,z,c,fa,f0,fv,ld,v7,v5,hf,w9]
    exact ⟨_,bd,i+1,_,hin,rfl,rfl,rfl,nx (.inr (.inl hf))⟩
 ·have hin:i=n:=by omega
  subst hin
  simp -implicitDefEqProofs only [bU,reduceIte,Jc,reduceCtorEq,Ja,Jb,bT,Jd,Je,Jf,bV,Ja,Jb,Jg,q0,q1,q2,q3,q9,h1,Jr,rsC,rsV,Js]
  exact ⟨by rw [Jql hp],hk⟩
theorem Ju4 {a:AV} {L:List Zi} {fo:List UInt8} {H:AH} (hs:Sx H eI a (Je9 L)) (hl:L.length≤1000):Jt C Xx [a,.s fo] H fun v H'=>v= .s (W9 L fo)∧QA H H':=by
 unfold Jt Xx
 have hk:=JA H
 obtain ⟨l1,l2⟩:=hs.len
 rw [QY] at l1
 simp -implicitDefEqProofs only [bU,reduceIte,Jc,reduceCtorEq,Ja,Jb,bT,Jd,Je,Jf]
 refine Jl (fun m e M=> ∃ (i:Nat) (g:Nat),i≤L.length∧m=L.length-i∧look e 0=a∧look e 1= .s fo∧look e 5= .i .i64 i∧M=⟨[],g,H⟩∧ ∀ j (hj:j < L.length),j < i→L[j].f≠fo) ?_ (n:=L.length)
  ⟨0,_,by omega,by omega,rfl,rfl,rfl,rfl,fun j _ hj=>by omega⟩
 rintro m e M ⟨i,g,hi,rfl,q0,q1,q5,rfl,hp⟩
 by_cases h1:(i:Int) < L.length
 ·have hin:i < L.length:=by omega
  have hx:=Ja5 hs (i:=i) (by rw [QY];omega)
  rw [ZO] at hx
  obtain ⟨z,c,fa,f0,fv,ld,v0,v1,v3,v4,v5,v6,v7,-,-,-,-⟩:=hx
  simp only [Z5 hin] at v0 v5
  have w9:IntKind.i64.wrap ((i:Int)+1)=((i+1:Nat):Int):=by rw [w64 (by omega) (by omega)];rfl
  have bd:L.length- (i+1) < L.length-i:=by omega
  by_cases hf:L[i].f=fo
  ·have hfd:L.find? (fun y=>decide (y.f=fo))=some L[i]:=JcX hin (by simpa using hf) (fun j hj=>by simpa using hp j (by omega) hj)
   rw [hf] at v5
   simp -implicitDefEqProofs only [bU,reduceIte,Jc,reduceCtorEq,Ja,Jb,bT,Jd,Je,Jf,bV,Ja,Jb,Jg,q0,q1,q5,l1,l2,h1,Jj,z,c,fa,f0,fv,ld,v0,v5,Jr,rsC,rsV,Js]
   unfold W9
   rw [hfd]
   exact ⟨rfl,hk⟩
  ·simp -implicitDefEqProofs only [bU,reduceIte,Jc,reduceCtorEq,Ja,Jb,bT,Jd,Je,Jf,bV,Ja,Jb,Jg,q0,q1,q5,l1,l2,h1,Jj,z,c,fa,f0,fv,ld,v5,hf,w9]
   exact ⟨_,bd,i+1,_,hin,rfl,rfl,rfl,fun j hjl hj=>by
    by_cases e:j=i
    ·subst e;exact hf
    ·exact hp j hjl (by omega)⟩
 ·have hin:i=L.length:=by omega
  have hfd:L.find? (fun y=>decide (y.f=fo))=none:=JcV (fun j hj=>by simpa using hp j hj (by omega))
  simp -implicitDefEqProofs only [bU,reduceIte,Jc,reduceCtorEq,Ja,Jb,bT,Jd,Je,Jf,bV,Ja,Jb,Jg,q0,q1,q5,l1,l2,h1,Jr,rsC,rsV,Js]
  unfold W9
  rw [hfd]
  exact ⟨rfl,hk⟩
end
section
variable {C:Tab}
theorem Jru (x:Zi) (b:Bool):eI.v (x,b)= .ag [.s x.r.o,.i .i64 x.r.t,.i .i64 x.r.c,.i .i64 x.r.ttl,.s x.r.d,.s x.f,.s x.g,.b b]:=rfl
theorem JcE (r:Rr):eR.v r= .ag [.s r.o,.i .i64 r.t,.i .i64 r.c,.i .i64 r.ttl,.s r.d]:=rfl
theorem JuT {x y:Zi} {bx by':Bool} {H:AH} (hC:Jfx C Ws) (hx:x.f.length≤1099511627776) (hy:y.f.length≤1099511627776):Jt C WJ [eI.v (x,bx),eI.v (y,by')] H fun v H'=>v= .b (JqV x y)∧QA H H':=by
 unfold Jt WJ
 have hk:=JA H
 rw [Jru,Jru]
 have kc:=hC x.f y.f H hx hy
 unfold JqV
 by_cases hf:x.f=y.f
 ·by_cases ht:x.r.t=y.r.t
  ·simp -implicitDefEqProofs only [bU,reduceIte,Jc,reduceCtorEq,Ja,Jb,bT,Jd,Je,Jf,bV,Ja,Jb,Jg,hf,ht,Jr,rsC,rsV,Js]
   exact ⟨by simp,hk⟩
  ·simp -implicitDefEqProofs only [bU,reduceIte,Jc,reduceCtorEq,Ja,Jb,bT,Jd,Je,Jf,bV,Ja,Jb,Jg,hf,ht,Jr,rsC,rsV,Js]
   exact ⟨by simp [ht],hk⟩
 ·simp -implicitDefEqProofs only [bU,reduceIte,Jc,reduceCtorEq,Ja,Jb,bT,Jd,Je,Jf,bV,Ja,Jb,Jg,hf,kc,Jr,rsC,rsV,Js]
  exact ⟨by simp [hf],hk⟩
theorem JuK {r:Rr} {apex:List UInt8} {H:AH} (hN:Jb2 C YC) (hI:JtP C Zv) (hM:JeC C Zj) (hK:JjD C WF) (hU:JbI C WO) (ho:r.o.length≤1099511627776) (hd:r.d.length≤1099511627776) (ha:apex.length≤1099511627776):
  Jt C Y6 [eR.v r,.s apex] H fun v H'=>v= .i .i64 (Jai r apex)∧QA H H':=by
 unfold Jt Y6
 have hk:=JA H
 rw [JcE]
 have k1:=hN r.o H ho
 have k2:=hI r.ttl 2147483647 H
 have k3:=hM r.t H
 have k4:=hK r.t r.d H hd
 have k5:=hU r.o apex H ho ha
 unfold Jai
 cases hn:JB r.o with
 | none=>
  rw [hn] at k1
  simp -implicitDefEqProofs only [bU,reduceIte,Jc,reduceCtorEq,Ja,Jb,bT,Jd,Je,Jf,bV,Ja,Jb,Jg,k1,Option.isSome_none,Jr,rsC,rsV,Js]
  exact hk
 | some ls=>
  rw [hn] at k1
  by_cases hc:r.c=1
  ·by_cases ht:0≤r.ttl∧r.ttl≤2147483647
   ·rw [decide_eq_true ht] at k2
    cases hm:Jd5 r.t with
    | true=>
     rw [hm] at k3
     simp -implicitDefEqProofs only [bU,reduceIte,Jc,reduceCtorEq,Ja,Jb,bT,Jd,Je,Jf,bV,Ja,Jb,Jg,k1,k2,k3,hc,Option.isSome_some,Jr,rsC,rsV,Js]
     exact ⟨by simp [ht.1,ht.2],hk⟩
    | false=>
     rw [hm] at k3
     by_cases h0:r.t < 0
     ·simp -implicitDefEqProofs only [bU,reduceIte,Jc,reduceCtorEq,Ja,Jb,bT,Jd,Je,Jf,bV,Ja,Jb,Jg,k1,k2,k3,hc,h0,Option.isSome_some,Jr,rsC,rsV,Js]
      exact ⟨by simp [ht.1,ht.2],hk⟩
     ·by_cases h1:65535 < r.t
      ·simp -implicitDefEqProofs only [bU,reduceIte,Jc,reduceCtorEq,Ja,Jb,bT,Jd,Je,Jf,bV,Ja,Jb,Jg,k1,k2,k3,hc,h0,h1,Option.isSome_some,Jr,rsC,rsV,Js]
       exact ⟨by simp [ht.1,ht.2],hk⟩
      ·by_cases hch:chk r.t r.d=0
       ·rw [hch] at k4
        cases hu:JfH r.o apex with
        | true=>
         rw [hu] at k5
         simp -implicitDefEqProofs only [bU,reduceIte,Jc,reduceCtorEq,Ja,Jb,bT,Jd,Je,Jf,bV,Ja,Jb,Jg,k1,k2,k3,k4,k5,hc,h0,h1,Option.isSome_some,Jr,rsC,rsV,Js]
         exact ⟨by simp [ht.1,ht.2,hch],hk⟩
        | false=>
         rw [hu] at k5
         simp -implicitDefEqProofs only [bU,reduceIte,Jc,reduceCtorEq,Ja,Jb,bT,Jd,Je,Jf,bV,Ja,Jb,Jg,k1,k2,k3,k4,k5,hc,h0,h1,Option.isSome_some,Jr,rsC,rsV,Js]
         exact ⟨by simp [ht.1,ht.2,hch],hk⟩
       ·simp -implicitDefEqProofs only [bU,reduceIte,Jc,reduceCtorEq,Ja,Jb,bT,Jd,Je,Jf,bV,Ja,Jb,Jg,k1,k2,k3,k4,hch,hc,h0,h1,Option.isSome_some,Jr,rsC,rsV,Js]
        exact ⟨by simp [ht.1,ht.2,hch],hk⟩
   ·rw [decide_eq_false ht] at k2
    simp -implicitDefEqProofs only [bU,reduceIte,Jc,reduceCtorEq,Ja,Jb,bT,Jd,Je,Jf,bV,Ja,Jb,Jg,k1,k2,hc,Option.isSome_some,Jr,rsC,rsV,Js]
    refine ⟨?_,hk⟩
    simp only [reduceCtorEq,if_false,not_true_eq_false,ne_eq]
    rw [if_pos ht]
  ·simp -implicitDefEqProofs only [bU,reduceIte,Jc,reduceCtorEq,Ja,Jb,bT,Jd,Je,Jf,bV,Ja,Jb,Jg,k1,hc,Option.isSome_some,Jr,rsC,rsV,Js]
   exact ⟨by simp [hc],hk⟩
end
def Jdq (L:List Zi) (fl:Nat→Bool):List (Zi×Bool):=(List.range L.length).map fun i=>(itZ L i,fl i)
theorem Jcz (L:List Zi) (fl:Nat→Bool):(Jdq L fl).length=L.length:=by simp [Jdq]
theorem JaU {L:List Zi} {fl:Nat→Bool} {i:Nat} (h:i < (Jdq L fl).length):(Jdq L fl)[i]=(itZ L i,fl i):=by simp [Jdq]
theorem Jjg {L:List Zi} {fl:Nat→Bool} {i:Nat} (hi:i < L.length) (b:Bool):(Jdq L fl).set i (itZ L i,b)=Jdq L fun j=>if j=i then b else fl j:=by
 apply List.ext_getElem (by simp [Jdq])
 intro j h1 h2
 rw [List.getElem_set,JaU]
 by_cases e:i=j
 ·subst e;rw [JaU];simp
 ·rw [if_neg e,JaU,if_neg fun h=>e h.symm]
theorem ZY {L:List Zi} {fl fl':Nat→Bool} (h: ∀ j,j < L.length→fl j=fl' j):Jdq L fl=Jdq L fl':=by
 unfold Jdq
 refine List.map_congr_left fun j hj=> ?_
 rw [h j (List.mem_range.1 hj)]
theorem Jc0 (n:Nat) (p:Nat→Bool):JL (n+1) p=(JL n p).or (if p n=true then some n else none):=by
 unfold JL
 rw [List.range_succ,List.find?_append]
 congr 1
 simp only [List.find?_cons,List.find?_nil]
 cases p n<;>rfl
def ixV:Option Nat→Int
 | some j=>(j:Int)
 | none=> -1
theorem JfJ {n:Nat} {p:Nat→Bool} (h:p n=true):ixV (JL (n+1) p)=if ixV (JL n p) < 0 then (n:Int) else ixV (JL n p):=by
 rw [Jc0,if_pos h]
 cases JL n p with
 | none=>rfl
 | some j=>
  have hj: ¬ ((j:Nat):Int) < 0:=by omega
  simp [Option.or,ixV,hj]
theorem JcS {n:Nat} {p:Nat→Bool} (h:p n=false):ixV (JL (n+1) p)=ixV (JL n p):=by
 rw [Jc0,if_neg (by rw [h];decide)]
 cases JL n p<;>rfl
def Jpk (L:List Zi):Int:=ixV (JL L.length (JaZ L))
def JgH (L:List Zi) (i j:Nat):Bool:=decide ((itZ L j).k=(itZ L i).k)
def JhG (L:List Zi) (i k:Nat):Bool:=(List.range k).any fun j=>JgH L i j&&decide ((itZ L j).g=(itZ L i).g)
theorem Jmq {L:List Zi} {i:Nat} (hi:i≤L.length):JhG L i i=WN L i:=by
 rw [Bool.eq_iff_iff,JdS hi]
 unfold JhG JgH
 rw [List.any_eq_true]
 constructor
 ·rintro ⟨j,hj,h⟩
  simp only [Bool.and_eq_true,decide_eq_true_eq] at h
  exact ⟨j,List.mem_range.1 hj,h.1,h.2⟩
 ·rintro ⟨j,hj,h1,h2⟩
  exact ⟨j,List.mem_range.2 hj,by simp [h1,h2]⟩
theorem Jcm (L:List Zi) (i k:Nat):JhG L i (k+1)=(JhG L i k|| (JgH L i k&&decide ((itZ L k).g=(itZ L i).g))):=by
 unfold JhG
 rw [List.range_succ,List.any_append]
 simp
theorem JqD {L:List Zi} {i:Nat} (hi:i≤L.length):JaZ L i=match JL i (JgH L i) with
 | some j=>decide ((itZ L j).r.ttl≠ (itZ L i).r.ttl)
 | none=>false:=by
 have key: ∀ n,n≤L.length→(L.take n).find? (fun y=>decide (y.k=(itZ L i).k))=(JL n (JgH L i)).map (itZ L):=by
  intro n
  induction n with
  | zero=>intro _;rfl
  | succ n ih=>
   intro hn
   rw [List.take_succ_eq_append_getElem (by omega),List.find?_append,ih (by omega),Jc0]
   have e:itZ L n=L[n]:=Z5 (by omega)
   cases JL n (JgH L i) with
   | some j=>rfl
   | none=>
    simp only [Option.map_none,Option.none_or,List.find?_cons,List.find?_nil,JgH,e]
    cases h:decide (L[n].k=(itZ L i).k) with
    | true=>simp [e]
    | false=>simp
 unfold JaZ
 rw [key i hi]
 cases JL i (JgH L i)<;>rfl
def Jg3 (L:List Zi) (i k j:Nat):Bool:=if j < i then WN L j else decide (j=i) &&JhG L i k
section
variable {C:Tab}
def Jiu (C:Tab) (f:Nat):Prop:= ∀ (a:AV) (L:List Zi) (H:AH),Mx H eI a (Jdq L fun _=>false)→L.length≤1000→ ∃ v H',C f [a] H=some (v,H')∧v= .i .i64 (Jpk L)∧Mx H' eI a (Je9 L)∧Kp (idA a) H H'
set_option maxHeartbeats 1000000 in
theorem Jpc {a:AV} {L:List Zi} {H:AH} (hm:Mx H eI a (Jdq L fun _=>false)) (hl:L.length≤1000):Jt C Xe [a] H fun v H'=>v= .i .i64 (Jpk L)∧Mx H' eI a (Je9 L)∧Kp (idA a) H H':=by
 unfold Jt Xe
 have ao:=hm.sl.out
 obtain ⟨l1,l2⟩:=Sx.len hm.sl
 rw [Jcz] at l1
 simp -implicitDefEqProofs only [bU,reduceIte,Jc,reduceCtorEq,Ja,Jb,bT,Jd,Je,Jf]
 refine Jl (fun m e M=> ∃ (i:Nat) (H':AH) (L0:List Lv) (g:Nat),i≤L.length∧m=L.length-i∧look e 0=a∧look e 3= .i .i64 (ixV (JL i (JaZ L)))∧look e 4= .i .i64 i∧M=⟨L0,g,H'⟩∧Mx H' eI a (Jdq L (Jg3 L i 0))∧Kp (idA a) H H') ?_ (n:=L.length)
  ⟨0,H,_,_,by omega,by omega,rfl,rfl,rfl,rfl,by rw [ZY (fl':=fun _=>false) (fun j _=>by simp [Jg3,JhG])];exact hm,.refl _ _⟩
 clear hm
 rintro m e M ⟨i,H',L0,g,hi,rfl,q0,q3,q4,rfl,hm,hk⟩
 by_cases h1:(i:Int) < L.length
 ·have hil:i < L.length:=by omega
  simp -implicitDefEqProofs only [bU,reduceIte,Jc,reduceCtorEq,Ja,Jb,bT,Jd,Je,Jf,bV,Ja,Jb,Jg,q0,q3,q4,l1,l2,h1]
  refine Jl (fun m e M=> ∃ (k:Nat) (H':AH) (L0:List Lv) (g:Nat),k≤i∧m=i-k∧look e 0=a∧look e 3= .i .i64 (ixV (JL i (JaZ L)))∧look e 4= .i .i64 i∧look e 5= .i .i64 (ixV (JL k (JgH L i)))∧look e 6= .i .i64 k∧M=⟨L0,g,H'⟩∧Mx H' eI a (Jdq L (Jg3 L i k))∧Kp (idA a) H H') ?_ (n:=i)
   ⟨0,H',_,_,by omega,by omega,rfl,rfl,rfl,rfl,rfl,rfl,hm,hk⟩
  clear hm hk q0 q3 q4
  rintro m e M ⟨k,H',L0,g,hki,rfl,q0,q3,q4,q5,q6,rfl,hm,hk⟩
  have hxi:=Ja5 hm.sl (i:=i) (by rw [Jcz];omega)
  rw [JaU] at hxi
  obtain ⟨zi,ci,fai,f0i,fvi,ldi,v0i,v1i,v3i,v4i,v5i,v6i,v7i,-,-,-,-⟩:=hxi
  by_cases h2:(k:Int) < i
  ·have hkl:k < i:=by omega
   have hxk:=Ja5 hm.sl (i:=k) (by rw [Jcz];omega)
   rw [JaU] at hxk
   obtain ⟨zk,ck,fak,f0k,fvk,ldk,v0k,v1k,v3k,v4k,v5k,v6k,v7k,-,-,-,-⟩:=hxk
   have w6:IntKind.i64.wrap ((k:Int)+1)=((k+1:Nat):Int):=by rw [w64 (by omega) (by omega)];rfl
   have bd:i- (k+1) < i-k:=by omega
   have same:JhG L i (k+1)=JhG L i k→Jdq L (Jg3 L i (k+1))=Jdq L (Jg3 L i k):=fun h=>ZY fun j _=>by simp only [Jg3,h]
   by_cases hf:(itZ L k).f=(itZ L i).f
   ·by_cases ht:(itZ L k).r.t=(itZ L i).r.t
    ·have hkey:JgH L i k=true:=decide_eq_true (Prod.ext hf ht)
     have hfx:=JfJ (p:=JgH L i) hkey
     have hmov: ∀ {v5:Int},v5=ixV (JL (k+1) (JgH L i))→True:=fun _=>trivial
     by_cases hg:(itZ L k).g=(itZ L i).g
     ·have ho:JhG L i (k+1)=true:=by rw [Jcm,hkey,hg];simp
      have hm0:Mx H' eI a ((Jdq L (Jg3 L i k)).set i (itZ L i,Jg3 L i k i)):=by
       rw [Jjg hil]
       rw [ZY (fl':=Jg3 L i k) (fun j _=>by by_cases e:j=i<;>simp [e])]
       exact hm
      obtain ⟨s1,s2,s3,s4,H2,s5,s6,s7,s8⟩:=hm0.stf (z:=8) (off:=7) (v:= .b true) (x':=(itZ L i,true)) rfl (by rw [Jcz];exact hil) (by decide) rfl rfl
      have hm2:Mx H2 eI a (Jdq L (Jg3 L i (k+1))):=by
       rw [Jjg hil] at s6
       rw [ZY (fl':=Jg3 L i (k+1)) (fun j _=>by
        by_cases e:j=i
        ·simp [e,Jg3,ho]
        ·simp [e,Jg3])] at s6
       exact s6
      have hk2:Kp (idA a) H H2:=hk.trans (.st s7 s8)
      by_cases h5:ixV (JL k (JgH L i)) < 0
      ·rw [if_pos h5] at hfx
       simp -implicitDefEqProofs only [bU,reduceIte,Jc,reduceCtorEq,Ja,Jb,bT,Jd,Je,Jf,bV,Ja,Jb,Jg,Qs,J6,q0,q3,q4,q5,q6,h2,Jj,zk,ck,fak,f0k,fvk,ldk,zi,ci,fai,f0i,fvi,ldi,v1k,v1i,v5k,v5i,v6k,v6i,hf,ht,hg,h5,s4,s5,w6]
       exact ⟨_,bd,k+1,H2,_,_,by omega,rfl,by rw [hfx],rfl,rfl,hm2,hk2⟩
      ·rw [if_neg h5] at hfx
       simp -implicitDefEqProofs only [bU,reduceIte,Jc,reduceCtorEq,Ja,Jb,bT,Jd,Je,Jf,bV,Ja,Jb,Jg,Qs,J6,q0,q3,q4,q5,q6,h2,Jj,zk,ck,fak,f0k,fvk,ldk,zi,ci,fai,f0i,fvi,ldi,v1k,v1i,v5k,v5i,v6k,v6i,hf,ht,hg,h5,s4,s5,w6]
       exact ⟨_,bd,k+1,H2,_,_,by omega,rfl,by rw [hfx],rfl,rfl,hm2,hk2⟩
     ·have ho:JhG L i (k+1)=JhG L i k:=by rw [Jcm];simp [hg]
      have hm2:=hm
      rw [←same ho] at hm2
      by_cases h5:ixV (JL k (JgH L i)) < 0
      ·rw [if_pos h5] at hfx
       simp -implicitDefEqProofs only [bU,reduceIte,Jc,reduceCtorEq,Ja,Jb,bT,Jd,Je,Jf,bV,Ja,Jb,Jg,Qs,J6,q0,q3,q4,q5,q6,h2,Jj,zk,ck,fak,f0k,fvk,ldk,zi,ci,fai,f0i,fvi,ldi,v1k,v1i,v5k,v5i,v6k,v6i,hf,ht,hg,h5,w6]
       exact ⟨_,bd,k+1,H',_,_,by omega,rfl,by rw [hfx],rfl,rfl,hm2,hk⟩
      ·rw [if_neg h5] at hfx
       simp -implicitDefEqProofs only [bU,reduceIte,Jc,reduceCtorEq,Ja,Jb,bT,Jd,Je,Jf,bV,Ja,Jb,Jg,Qs,J6,q0,q3,q4,q5,q6,h2,Jj,zk,ck,fak,f0k,fvk,ldk,zi,ci,fai,f0i,fvi,ldi,v1k,v1i,v5k,v5i,v6k,v6i,hf,ht,hg,h5,w6]
       exact ⟨_,bd,k+1,H',_,_,by omega,rfl,by rw [hfx],rfl,rfl,hm2,hk⟩
    ·have hkey:JgH L i k=false:=decide_eq_false fun h=>ht (congrArg Prod.snd h)
     have hfx:=JcS (p:=JgH L i) hkey
     have ho:JhG L i (k+1)=JhG L i k:=by rw [Jcm,hkey];simp
     have hm2:=hm
     rw [←same ho] at hm2
     simp -implicitDefEqProofs only [bU,reduceIte,Jc,reduceCtorEq,Ja,Jb,bT,Jd,Je,Jf,bV,Ja,Jb,Jg,Qs,J6,q0,q3,q4,q5,q6,h2,Jj,zk,ck,fak,f0k,fvk,ldk,zi,ci,fai,f0i,fvi,ldi,v1k,v1i,v5k,v5i,hf,ht,w6]
     exact ⟨_,bd,k+1,H',_,_,by omega,rfl,by rw [hfx],rfl,rfl,hm2,hk⟩
   ·have hkey:JgH L i k=false:=decide_eq_false fun h=>hf (congrArg Prod.fst h)
    have hfx:=JcS (p:=JgH L i) hkey
    have ho:JhG L i (k+1)=JhG L i k:=by rw [Jcm,hkey];simp
    have hm2:=hm
    rw [←same ho] at hm2
    simp -implicitDefEqProofs only [bU,reduceIte,Jc,reduceCtorEq,Ja,Jb,bT,Jd,Je,Jf,bV,Ja,Jb,Jg,Qs,J6,q0,q3,q4,q5,q6,h2,Jj,zk,ck,fak,f0k,fvk,ldk,zi,ci,fai,f0i,fvi,ldi,v5k,v5i,hf,w6]
    exact ⟨_,bd,k+1,H',_,_,by omega,rfl,by rw [hfx],rfl,rfl,hm2,hk⟩
  ·have hke:k=i:=by omega
   subst hke
   have w4:IntKind.i64.wrap ((k:Int)+1)=((k+1:Nat):Int):=by rw [w64 (by omega) (by omega)];rfl
   have bd:L.length- (k+1) < L.length-k:=by omega
   have hmx:=JqD (L:=L) (i:=k) (by omega)
   have hm2:Mx H' eI a (Jdq L (Jg3 L (k+1) 0)):=by
    rw [ZY (fl':=Jg3 L k k) (fun j hj=> ?_)]
    ·exact hm
    ·have e0:JhG L (k+1) 0=false:=rfl
     simp only [Jg3,e0,Bool.and_false]
     by_cases e:j < k
     ·rw [if_pos (by omega),if_pos e]
     ·rw [if_neg e]
      by_cases e2:j=k
      ·subst e2;rw [if_pos (by omega),Jmq (by omega)];simp
      ·rw [if_neg (by omega)];simp [e2]
   have hbad: ∀ {v:Int},(JaZ L k=true→v=if ixV (JL k (JaZ L)) < 0 then (k:Int) else ixV (JL k (JaZ L)))→(JaZ L k=false→v=ixV (JL k (JaZ L)))→ixV (JL (k+1) (JaZ L))=v:=fun h1 h2=>by
    cases hb:JaZ L k with
    | true=>rw [JfJ hb,h1 hb]
    | false=>rw [JcS hb,h2 hb]
   have one:(1:Int)≤1:=Int.le_refl _
   by_cases h3:ixV (JL k (JaZ L)) < 0
   ·cases hfx:JL k (JgH L k) with
    | none=>
     rw [hfx] at q5 hmx
     have hmx:JaZ L k=false:=hmx
     have e5: ¬ (0:Int)≤ixV none:=by decide
     have hb:=hbad (v:=ixV (JL k (JaZ L))) (fun h=>by rw [hmx] at h;cases h) fun _=>rfl
     simp -implicitDefEqProofs only [bU,reduceIte,Jc,reduceCtorEq,Ja,Jb,bT,Jd,Je,Jf,bV,Ja,Jb,Jg,Qs,J6,q0,q3,q4,q5,q6,h2,h3,e5,w4]
     exact ⟨_,bd,k+1,H',_,_,by omega,rfl,by rw [hb],rfl,rfl,hm2,hk⟩
    | some j=>
     rw [hfx] at q5 hmx
     have hjk:=(JhR hfx).1
     have hmx:JaZ L k=decide ((itZ L j).r.ttl≠ (itZ L k).r.ttl):=hmx
     have hxj:=Ja5 hm.sl (i:=j) (by rw [Jcz];omega)
     rw [JaU] at hxj
     obtain ⟨zj,cj,faj,f0j,fvj,ldj,v0j,v1j,v3j,-,-,-,-,-,-,-,-⟩:=hxj
     have e5:(0:Int)≤ixV (some j):=by simp [ixV]
     have e6:ixV (some j)=(j:Int):=rfl
     have e7:(0:Int)≤(j:Int):=by omega
     rw [e6] at q5
     by_cases htt:(itZ L j).r.ttl=(itZ L k).r.ttl
     ·have hb:=hbad (v:=ixV (JL k (JaZ L))) (fun h=>by rw [hmx,htt] at h;simp at h) fun _=>rfl
      simp -implicitDefEqProofs only [bU,reduceIte,Jc,reduceCtorEq,Ja,Jb,bT,Jd,Je,Jf,bV,Ja,Jb,Jg,Qs,J6,q0,q3,q4,q5,q6,h2,h3,e7,Jj,zj,cj,faj,f0j,fvj,ldj,v3j,zi,ci,fai,f0i,fvi,ldi,v3i,htt,w4]
      exact ⟨_,bd,k+1,H',_,_,by omega,rfl,by rw [hb],rfl,rfl,hm2,hk⟩
     ·have hb:=hbad (v:=(k:Int)) (fun _=>by rw [if_pos h3]) fun h=>by rw [hmx] at h;simp [htt] at h
      simp -implicitDefEqProofs only [bU,reduceIte,Jc,reduceCtorEq,Ja,Jb,bT,Jd,Je,Jf,bV,Ja,Jb,Jg,Qs,J6,q0,q3,q4,q5,q6,h2,h3,e7,Jj,zj,cj,faj,f0j,fvj,ldj,v3j,zi,ci,fai,f0i,fvi,ldi,v3i,htt,w4]
      exact ⟨_,bd,k+1,H',_,_,by omega,rfl,by rw [hb],rfl,rfl,hm2,hk⟩
   ·have hb:=hbad (v:=ixV (JL k (JaZ L))) (fun _=>by rw [if_neg h3]) fun _=>rfl
    simp -implicitDefEqProofs only [bU,reduceIte,Jc,reduceCtorEq,Ja,Jb,bT,Jd,Je,Jf,bV,Ja,Jb,Jg,Qs,J6,q0,q3,q4,q5,q6,h2,h3,w4]
    exact ⟨_,bd,k+1,H',_,_,by omega,rfl,by rw [hb],rfl,rfl,hm2,hk⟩
 ·have hil:i=L.length:=by omega
  subst hil
  simp -implicitDefEqProofs only [bU,reduceIte,Jc,reduceCtorEq,Ja,Jb,bT,Jd,Je,Jf,bV,Ja,Jb,Jg,q0,q3,q4,l1,l2,h1,Jr,rsC,rsV,Js]
  refine ⟨?_,?_,hk⟩
  ·rfl
  ·have:Jdq L (Jg3 L L.length 0)=Je9 L:=ZY fun j hj=>by simp [Jg3,hj]
   rw [←this];exact hm
end
section
variable {C:Tab} {L:List Zi} {a:AV} {top:List UInt8} {H:AH} {e:Env} {L0:List Lv} {g:Nat} {κ:Jaa}
theorem Y8 {p:Nat→Bool} {i:Nat} (h: ∀ j,j < i→p j=false) (hi:p i=false): ∀ j,j < i+1→p j=false:=fun j hj=>by
 by_cases e:j=i
 ·subst e;exact hi
 ·exact h j (by omega)
theorem Jr6 (hs:Sx H eI a (Je9 L)) (hl:L.length≤1000) (hHas:JjI C Wv) (q0:look e 0=a) (q6:look e 6= .s top)
  (hit: ∀ i e' L' g',JL L.length (Jb6 L top)=some i→look e' 4= .i .i64 20→look e' 5= .i .i64 (i:Nat)→κ .rt e' ⟨L',g',H⟩)
  (miss:JL L.length (Jb6 L top)=none→ ∀ e' L' g',look e' 0=a→look e' 6= .s top→κ .nx e' ⟨L',g',H⟩):exec C (sAt Jo.s [1,1,0]) e ⟨L0,g,H⟩ κ:=by
 simp only [Jo,sAt]
 obtain ⟨l1,l2⟩:=hs.len
 rw [QY] at l1
 simp -implicitDefEqProofs only [bU,reduceIte,Jc,reduceCtorEq,Ja,Jb,bT,Jd,Je,Jf,q0,q6]
 refine Jl (fun m e M=> ∃ (i:Nat) (L0:List Lv) (g:Nat),i≤L.length∧m=L.length-i∧look e 0=a∧look e 6= .s top∧look e 7= .i .i64 i∧M=⟨L0,g,H⟩∧ ∀ j,j < i→Jb6 L top j=false) ?_ (n:=L.length)
  ⟨0,_,_,by omega,by omega,by simp -implicitDefEqProofs only [bU,reduceIte,Jc,reduceCtorEq,Ja,Jb,bT,Jd,Je,Jf,q0],by simp -implicitDefEqProofs only [bU,reduceIte,Jc,reduceCtorEq,Ja,Jb,bT,Jd,Je,Jf,q6],rfl,rfl,fun j hj=>by omega⟩
 clear q0 q6
 rintro m e M ⟨i,L0,g,hi,rfl,q0,q6,qi,rfl,hp⟩
 by_cases h1:(i:Int) < L.length
 ·have hil:i < L.length:=by omega
  have hx:=Ja5 hs (i:=i) (by rw [QY];omega)
  rw [ZO] at hx
  obtain ⟨z,c,fa,f0,fv,ld,v0,v1,v3,v4,v5,v6,v7,-,-,-,-⟩:=hx
  simp only at v0 v1 v3 v4 v5 v6 v7
  have w9:IntKind.i64.wrap ((i:Int)+1)=((i+1:Nat):Int):=by rw [w64 (by omega) (by omega)];rfl
  have bd:L.length- (i+1) < L.length-i:=by omega
  have nx:Jb6 L top i=false→ ∀ j,j < i+1→Jb6 L top j=false:=Y8 hp
  have ht:Jb6 L top i=true→JL L.length (Jb6 L top)=some i:=fun h=>Ym hil h hp
  have kh:=hHas a L i top 6 H hs (by omega) hl
  cases ho:WN L i with
  | true=>
   rw [ho] at v7
   simp -implicitDefEqProofs only [bU,reduceIte,Jc,reduceCtorEq,Ja,Jb,bT,Jd,Je,Jf,bV,Ja,Jb,Jg,q0,q6,qi,l1,l2,h1,Jj,z,c,fa,f0,fv,ld,v7,w9]
   exact ⟨_,bd,i+1,_,_,hil,rfl,rfl,rfl,nx (by simp [Jb6,ho])⟩
  | false=>
   rw [ho] at v7
   by_cases h6:(itZ L i).r.t=6
   ·rw [h6] at v1
    by_cases hf:(itZ L i).f=top
    ·rw [hf] at v5
     cases hh:hasB L i top 6 with
     | true=>
      rw [hh] at kh
      simp -implicitDefEqProofs only [bU,reduceIte,Jc,reduceCtorEq,Ja,Jb,bT,Jd,Je,Jf,bV,Ja,Jb,Jg,q0,q6,qi,l1,l2,h1,Jj,z,c,fa,f0,fv,ld,v7,v1,v5,kh,hs.out]
      exact hit i _ _ _ (ht (by simp [Jb6,ho,h6,hh])) rfl rfl
     | false=>
      rw [hh] at kh
      simp -implicitDefEqProofs only [bU,reduceIte,Jc,reduceCtorEq,Ja,Jb,bT,Jd,Je,Jf,bV,Ja,Jb,Jg,q0,q6,qi,l1,l2,h1,Jj,z,c,fa,f0,fv,ld,v7,v1,v5,kh,hs.out,w9]
      exact ⟨_,bd,i+1,_,_,hil,rfl,rfl,rfl,nx (by simp [Jb6,ho,hf,hh])⟩
    ·
     simp -implicitDefEqProofs only [bU,reduceIte,Jc,reduceCtorEq,Ja,Jb,bT,Jd,Je,Jf,bV,Ja,Jb,Jg,q0,q6,qi,l1,l2,h1,Jj,z,c,fa,f0,fv,ld,v7,v1,v5,hf]
     exact hit i _ _ _ (ht (by simp [Jb6,ho,h6,hf])) rfl rfl
   ·
    simp -implicitDefEqProofs only [bU,reduceIte,Jc,reduceCtorEq,Ja,Jb,bT,Jd,Je,Jf,bV,Ja,Jb,Jg,q0,q6,qi,l1,l2,h1,Jj,z,c,fa,f0,fv,ld,v7,v1,h6,w9]
    exact ⟨_,bd,i+1,_,_,hil,rfl,rfl,rfl,nx (by simp [Jb6,ho,h6])⟩
 ·have hil:i=L.length:=by omega
  subst hil
  have hno:=Yn hp
  simp -implicitDefEqProofs only [bU,reduceIte,Jc,reduceCtorEq,Ja,Jb,bT,Jd,Je,Jf,bV,Ja,Jb,Jg,q0,q6,qi,l1,l2,h1]
  exact miss hno _ _ _ (by simp -implicitDefEqProofs only [bU,reduceIte,Jc,reduceCtorEq,Ja,Jb,bT,Jd,Je,Jf,q0]) (by simp -implicitDefEqProofs only [bU,reduceIte,Jc,reduceCtorEq,Ja,Jb,bT,Jd,Je,Jf,q6])
theorem Jpv (hs:Sx H eI a (Je9 L)) (hl:L.length≤1000) (hSt:Jjn C Wm) (q0:look e 0=a)
  (hit: ∀ i e' L' g',JL L.length (YU L)=some i→look e' 4= .i .i64 26→look e' 5= .i .i64 (i:Nat)→κ .rt e' ⟨L',g',H⟩)
  (miss:JL L.length (YU L)=none→ ∀ e' L' g',look e' 0=a→κ .nx e' ⟨L',g',H⟩):exec C (sAt Jo.s [1,1,1,1,1,0]) e ⟨L0,g,H⟩ κ:=by
 simp only [Jo,sAt]
 obtain ⟨l1,l2⟩:=hs.len
 rw [QY] at l1
 simp -implicitDefEqProofs only [bU,reduceIte,Jc,reduceCtorEq,Ja,Jb,bT,Jd,Je,Jf,q0]
 refine Jl (fun m e M=> ∃ (i:Nat) (L0:List Lv) (g:Nat),i≤L.length∧m=L.length-i∧look e 0=a∧look e 8= .i .i64 i∧M=⟨L0,g,H⟩∧ ∀ j,j < i→YU L j=false) ?_ (n:=L.length)
  ⟨0,_,_,by omega,by omega,by simp -implicitDefEqProofs only [bU,reduceIte,Jc,reduceCtorEq,Ja,Jb,bT,Jd,Je,Jf,q0],rfl,rfl,fun j hj=>by omega⟩
 clear q0
 rintro m e M ⟨i,L0,g,hi,rfl,q0,qi,rfl,hp⟩
 by_cases h1:(i:Int) < L.length
 ·have hil:i < L.length:=by omega
  have hx:=Ja5 hs (i:=i) (by rw [QY];omega)
  rw [ZO] at hx
  obtain ⟨z,c,fa,f0,fv,ld,v0,v1,v3,v4,v5,v6,v7,-,-,-,-⟩:=hx
  simp only at v0 v1 v3 v4 v5 v6 v7
  have w9:IntKind.i64.wrap ((i:Int)+1)=((i+1:Nat):Int):=by rw [w64 (by omega) (by omega)];rfl
  have bd:L.length- (i+1) < L.length-i:=by omega
  have nx:YU L i=false→ ∀ j,j < i+1→YU L j=false:=Y8 hp
  have ht:YU L i=true→JL L.length (YU L)=some i:=fun h=>Ym hil h hp
  have kst:=hSt (itZ L i).f H
  cases ho:WN L i with
  | true=>
   rw [ho] at v7
   simp -implicitDefEqProofs only [bU,reduceIte,Jc,reduceCtorEq,Ja,Jb,bT,Jd,Je,Jf,bV,Ja,Jb,Jg,q0,qi,l1,l2,h1,Jj,z,c,fa,f0,fv,ld,v7,w9]
   exact ⟨_,bd,i+1,_,_,hil,rfl,rfl,rfl,nx (by simp [YU,ho])⟩
  | false=>
   rw [ho] at v7
   cases hst:Jh7 (itZ L i).f with
   | false=>
    rw [hst] at kst
    simp -implicitDefEqProofs only [bU,reduceIte,Jc,reduceCtorEq,Ja,Jb,bT,Jd,Je,Jf,bV,Ja,Jb,Jg,q0,qi,l1,l2,h1,Jj,z,c,fa,f0,fv,ld,v7,v1,v5,kst,w9]
    exact ⟨_,bd,i+1,_,_,hil,rfl,rfl,rfl,nx (by simp [YU,hst])⟩
   | true=>
    rw [hst] at kst
    by_cases h2:(itZ L i).r.t=2
    ·rw [h2] at v1
     simp -implicitDefEqProofs only [bU,reduceIte,Jc,reduceCtorEq,Ja,Jb,bT,Jd,Je,Jf,bV,Ja,Jb,Jg,q0,qi,l1,l2,h1,Jj,z,c,fa,f0,fv,ld,v7,v1,v5,kst]
     exact hit i _ _ _ (ht (by simp [YU,ho,hst,h2])) rfl rfl
    ·by_cases h39:(itZ L i).r.t=39
     ·have h39':((itZ L i).r.t=39)=True:=eq_true h39
      simp -implicitDefEqProofs only [bU,reduceIte,Jc,reduceCtorEq,Ja,Jb,bT,Jd,Je,Jf,bV,Ja,Jb,Jg,q0,qi,l1,l2,h1,Jj,z,c,fa,f0,fv,ld,v7,v1,v5,kst,h2,h39']
      exact hit i _ _ _ (ht (by simp [YU,ho,hst,h39])) rfl rfl
     ·
      simp -implicitDefEqProofs only [bU,reduceIte,Jc,reduceCtorEq,Ja,Jb,bT,Jd,Je,Jf,bV,Ja,Jb,Jg,q0,qi,l1,l2,h1,Jj,z,c,fa,f0,fv,ld,v7,v1,v5,kst,h2,h39,w9]
      exact ⟨_,bd,i+1,_,_,hil,rfl,rfl,rfl,nx (by simp [YU,h2,h39])⟩
 ·have hil:i=L.length:=by omega
  subst hil
  have hno:=Yn hp
  simp -implicitDefEqProofs only [bU,reduceIte,Jc,reduceCtorEq,Ja,Jb,bT,Jd,Je,Jf,bV,Ja,Jb,Jg,q0,qi,l1,l2,h1]
  exact miss hno _ _ _ (by simp -implicitDefEqProofs only [bU,reduceIte,Jc,reduceCtorEq,Ja,Jb,bT,Jd,Je,Jf,q0])
theorem JqE (hs:Sx H eI a (Je9 L)) (hl:L.length≤1000) (hHas:JjI C Wv) (q0:look e 0=a)
  (hit: ∀ i e' L' g',JL L.length (YB L)=some i→look e' 4= .i .i64 23→look e' 5= .i .i64 (i:Nat)→κ .rt e' ⟨L',g',H⟩)
  (miss:JL L.length (YB L)=none→ ∀ e' L' g',look e' 0=a→κ .nx e' ⟨L',g',H⟩):exec C (sAt Jo.s [1,1,1,1,1,1,0]) e ⟨L0,g,H⟩ κ:=by
 simp only [Jo,sAt]
 obtain ⟨l1,l2⟩:=hs.len
 rw [QY] at l1
 simp -implicitDefEqProofs only [bU,reduceIte,Jc,reduceCtorEq,Ja,Jb,bT,Jd,Je,Jf,q0]
 refine Jl (fun m e M=> ∃ (i:Nat) (L0:List Lv) (g:Nat),i≤L.length∧m=L.length-i∧look e 0=a∧look e 10= .i .i64 i∧M=⟨L0,g,H⟩∧ ∀ j,j < i→YB L j=false) ?_ (n:=L.length)
  ⟨0,_,_,by omega,by omega,by simp -implicitDefEqProofs only [bU,reduceIte,Jc,reduceCtorEq,Ja,Jb,bT,Jd,Je,Jf,q0],rfl,rfl,fun j hj=>by omega⟩
 clear q0
 rintro m e M ⟨i,L0,g,hi,rfl,q0,qi,rfl,hp⟩
 by_cases h1:(i:Int) < L.length
 ·have hil:i < L.length:=by omega
  have hx:=Ja5 hs (i:=i) (by rw [QY];omega)
  rw [ZO] at hx
  obtain ⟨z,c,fa,f0,fv,ld,v0,v1,v3,v4,v5,v6,v7,-,-,-,-⟩:=hx
  simp only at v0 v1 v3 v4 v5 v6 v7
  have w9:IntKind.i64.wrap ((i:Int)+1)=((i+1:Nat):Int):=by rw [w64 (by omega) (by omega)];rfl
  have bd:L.length- (i+1) < L.length-i:=by omega
  have nx:YB L i=false→ ∀ j,j < i+1→YB L j=false:=Y8 hp
  have ht:YB L i=true→JL L.length (YB L)=some i:=fun h=>Ym hil h hp
  have kh:=hHas a L i (itZ L i).f (itZ L i).r.t H hs (by omega) hl
  cases ho:WN L i with
  | true=>
   rw [ho] at v7
   simp -implicitDefEqProofs only [bU,reduceIte,Jc,reduceCtorEq,Ja,Jb,bT,Jd,Je,Jf,bV,Ja,Jb,Jg,q0,qi,l1,l2,h1,Jj,z,c,fa,f0,fv,ld,v1,v7,w9]
   exact ⟨_,bd,i+1,_,_,hil,rfl,rfl,rfl,nx (by simp [YB,ho])⟩
  | false=>
   rw [ho] at v7
   by_cases h5:(itZ L i).r.t=5
   ·have h5':((itZ L i).r.t=5)=True:=eq_true h5
    cases hh:hasB L i (itZ L i).f (itZ L i).r.t with
    | true=>
     rw [hh] at kh
     simp -implicitDefEqProofs only [bU,reduceIte,Jc,reduceCtorEq,Ja,Jb,bT,Jd,Je,Jf,bV,Ja,Jb,Jg,q0,qi,l1,l2,h1,Jj,z,c,fa,f0,fv,ld,v7,v1,v5,kh,hs.out,h5']
     exact hit i _ _ _ (ht (by have hh2:=hh;rw [h5] at hh2;simp [YB,ho,hh2,h5])) rfl rfl
    | false=>
     rw [hh] at kh
     simp -implicitDefEqProofs only [bU,reduceIte,Jc,reduceCtorEq,Ja,Jb,bT,Jd,Je,Jf,bV,Ja,Jb,Jg,q0,qi,l1,l2,h1,Jj,z,c,fa,f0,fv,ld,v7,v1,v5,kh,hs.out,h5',w9]
     exact ⟨_,bd,i+1,_,_,hil,rfl,rfl,rfl,nx (by simp [YB,hh])⟩
   ·by_cases h39:(itZ L i).r.t=39
    ·have h39':((itZ L i).r.t=39)=True:=eq_true h39
     cases hh:hasB L i (itZ L i).f (itZ L i).r.t with
     | true=>
      rw [hh] at kh
      simp -implicitDefEqProofs only [bU,reduceIte,Jc,reduceCtorEq,Ja,Jb,bT,Jd,Je,Jf,bV,Ja,Jb,Jg,q0,qi,l1,l2,h1,Jj,z,c,fa,f0,fv,ld,v7,v1,v5,kh,hs.out,h5,h39']
      exact hit i _ _ _ (ht (by have hh2:=hh;rw [h39] at hh2;simp [YB,ho,hh2,h39])) rfl rfl
     | false=>
      rw [hh] at kh
      simp -implicitDefEqProofs only [bU,reduceIte,Jc,reduceCtorEq,Ja,Jb,bT,Jd,Je,Jf,bV,Ja,Jb,Jg,q0,qi,l1,l2,h1,Jj,z,c,fa,f0,fv,ld,v7,v1,v5,kh,hs.out,h5,h39',w9]
      exact ⟨_,bd,i+1,_,_,hil,rfl,rfl,rfl,nx (by simp [YB,hh])⟩
    ·
     simp -implicitDefEqProofs only [bU,reduceIte,Jc,reduceCtorEq,Ja,Jb,bT,Jd,Je,Jf,bV,Ja,Jb,Jg,q0,qi,l1,l2,h1,Jj,z,c,fa,f0,fv,ld,v7,v1,v5,h5,h39,w9]
     exact ⟨_,bd,i+1,_,_,hil,rfl,rfl,rfl,nx (by simp [YB,h5,h39])⟩
 ·have hil:i=L.length:=by omega
  subst hil
  have hno:=Yn hp
  simp -implicitDefEqProofs only [bU,reduceIte,Jc,reduceCtorEq,Ja,Jb,bT,Jd,Je,Jf,bV,Ja,Jb,Jg,q0,qi,l1,l2,h1]
  exact miss hno _ _ _ (by simp -implicitDefEqProofs only [bU,reduceIte,Jc,reduceCtorEq,Ja,Jb,bT,Jd,Je,Jf,q0])
theorem Juq (hs:Sx H eI a (Je9 L)) (hl:L.length≤1000) (hHas:JjI C Wv) (q0:look e 0=a)
  (hit: ∀ i e' L' g',JL L.length (cnB L)=some i→look e' 4= .i .i64 23→look e' 5= .i .i64 (i:Nat)→κ .rt e' ⟨L',g',H⟩)
  (miss:JL L.length (cnB L)=none→ ∀ e' L' g',look e' 0=a→κ .nx e' ⟨L',g',H⟩):exec C (sAt Jo.s [1,1,1,1,1,1,1,0]) e ⟨L0,g,H⟩ κ:=by
 simp only [Jo,sAt]
 obtain ⟨l1,l2⟩:=hs.len
 rw [QY] at l1
 simp -implicitDefEqProofs only [bU,reduceIte,Jc,reduceCtorEq,Ja,Jb,bT,Jd,Je,Jf,q0]
 refine Jl (fun m e M=> ∃ (i:Nat) (L0:List Lv) (g:Nat),i≤L.length∧m=L.length-i∧look e 0=a∧look e 12= .i .i64 i∧M=⟨L0,g,H⟩∧ ∀ j,j < i→cnB L j=false) ?_ (n:=L.length)
  ⟨0,_,_,by omega,by omega,by simp -implicitDefEqProofs only [bU,reduceIte,Jc,reduceCtorEq,Ja,Jb,bT,Jd,Je,Jf,q0],rfl,rfl,fun j hj=>by omega⟩
 clear q0
 rintro m e M ⟨i,L0,g,hi,rfl,q0,qi,rfl,hp⟩
 by_cases h1:(i:Int) < L.length
 ·have hil:i < L.length:=by omega
  have hx:=Ja5 hs (i:=i) (by rw [QY];omega)
  rw [ZO] at hx
  obtain ⟨z,c,fa,f0,fv,ld,v0,v1,v3,v4,v5,v6,v7,-,-,-,-⟩:=hx
  simp only at v0 v1 v3 v4 v5 v6 v7
  have w9:IntKind.i64.wrap ((i:Int)+1)=((i+1:Nat):Int):=by rw [w64 (by omega) (by omega)];rfl
  have bd:L.length- (i+1) < L.length-i:=by omega
  have nx:cnB L i=false→ ∀ j,j < i+1→cnB L j=false:=Y8 hp
  have ht:cnB L i=true→JL L.length (cnB L)=some i:=fun h=>Ym hil h hp
  have kh:=hHas a L L.length (itZ L i).f 5 H hs (by omega) hl
  cases ho:WN L i with
  | true=>
   rw [ho] at v7
   simp -implicitDefEqProofs only [bU,reduceIte,Jc,reduceCtorEq,Ja,Jb,bT,Jd,Je,Jf,bV,Ja,Jb,Jg,q0,qi,l1,l2,h1,Jj,z,c,fa,f0,fv,ld,v1,v7,w9]
   exact ⟨_,bd,i+1,_,_,hil,rfl,rfl,rfl,nx (by simp [cnB,ho])⟩
  | false=>
   rw [ho] at v7
   by_cases h5:(itZ L i).r.t=5
   ·have h5':((itZ L i).r.t=5)=True:=eq_true h5
    simp -implicitDefEqProofs only [bU,reduceIte,Jc,reduceCtorEq,Ja,Jb,bT,Jd,Je,Jf,bV,Ja,Jb,Jg,q0,qi,l1,l2,h1,Jj,z,c,fa,f0,fv,ld,v1,v7,h5',w9]
    exact ⟨_,bd,i+1,_,_,hil,rfl,rfl,rfl,nx (by simp [cnB,h5])⟩
   ·by_cases h47:(itZ L i).r.t=47
    ·have h47':((itZ L i).r.t=47)=True:=eq_true h47
     simp -implicitDefEqProofs only [bU,reduceIte,Jc,reduceCtorEq,Ja,Jb,bT,Jd,Je,Jf,bV,Ja,Jb,Jg,q0,qi,l1,l2,h1,Jj,z,c,fa,f0,fv,ld,v1,v7,h5,h47',w9]
     exact ⟨_,bd,i+1,_,_,hil,rfl,rfl,rfl,nx (by simp [cnB,h47])⟩
    ·cases hh:hasB L L.length (itZ L i).f 5 with
     | true=>
      rw [hh] at kh
      simp -implicitDefEqProofs only [bU,reduceIte,Jc,reduceCtorEq,Ja,Jb,bT,Jd,Je,Jf,bV,Ja,Jb,Jg,q0,qi,l1,l2,h1,Jj,z,c,fa,f0,fv,ld,v7,v1,v5,h5,h47,kh,hs.out]
      exact hit i _ _ _ (ht (by simp [cnB,ho,h5,h47,hh])) rfl rfl
     | false=>
      rw [hh] at kh
      simp -implicitDefEqProofs only [bU,reduceIte,Jc,reduceCtorEq,Ja,Jb,bT,Jd,Je,Jf,bV,Ja,Jb,Jg,q0,qi,l1,l2,h1,Jj,z,c,fa,f0,fv,ld,v7,v1,v5,h5,h47,kh,hs.out,w9]
      exact ⟨_,bd,i+1,_,_,hil,rfl,rfl,rfl,nx (by simp [cnB,hh])⟩
 ·have hil:i=L.length:=by omega
  subst hil
  have hno:=Yn hp
  simp -implicitDefEqProofs only [bU,reduceIte,Jc,reduceCtorEq,Ja,Jb,bT,Jd,Je,Jf,bV,Ja,Jb,Jg,q0,qi,l1,l2,h1]
  exact miss hno _ _ _ (by simp -implicitDefEqProofs only [bU,reduceIte,Jc,reduceCtorEq,Ja,Jb,bT,Jd,Je,Jf,q0])
end
section
variable {C:Tab} {L:List Zi} {a:AV} {top:List UInt8} {H:AH} {e:Env} {L0:List Lv} {g:Nat} {κ:Jaa}
def Jmg (L:List Zi) (i k:Nat):Bool:= !WN L i&& !WN L k&&decide ((itZ L k).r.t=39) &&decide ((itZ L k).f≠ (itZ L i).f) &&JfH (itZ L i).f (itZ L k).f
theorem Jpb {i k:Nat} (hk:k < L.length) (h:Jmg L i k=true):JdK L i=true:=by
 unfold JdK
 rw [List.any_eq_true]
 exact ⟨k,List.mem_range.2 hk,h⟩
theorem JlU {i:Nat} (h: ∀ k,k < L.length→Jmg L i k=false):JdK L i=false:=by
 rw [←Bool.not_eq_true]
 unfold JdK
 rw [List.any_eq_true]
 rintro ⟨k,hk,hh⟩
 have:=h k (List.mem_range.1 hk)
 unfold Jmg at this
 rw [this] at hh
 cases hh
set_option maxHeartbeats 2000000 in
theorem JsS (hs:Sx H eI a (Je9 L)) (hl:L.length≤1000) (hU:JbI C WO) (hfl: ∀ i,i < L.length→(itZ L i).f.length≤1099511627776) (q0:look e 0=a)
  (hit: ∀ i e' L' g',JL L.length (JdK L)=some i→look e' 4= .i .i64 25→look e' 5= .i .i64 (i:Nat)→κ .rt e' ⟨L',g',H⟩)
  (miss:JL L.length (JdK L)=none→ ∀ e' L' g',look e' 0=a→κ .nx e' ⟨L',g',H⟩):exec C (sAt Jo.s [1,1,1,1,1,1,1,1,0]) e ⟨L0,g,H⟩ κ:=by
 simp only [Jo,sAt]
 obtain ⟨l1,l2⟩:=hs.len
 rw [QY] at l1
 simp -implicitDefEqProofs only [bU,reduceIte,Jc,reduceCtorEq,Ja,Jb,bT,Jd,Je,Jf,q0]
 refine Jl (fun m e M=> ∃ (i:Nat) (L0:List Lv) (g:Nat),i≤L.length∧m=L.length-i∧look e 0=a∧look e 14= .i .i64 i∧M=⟨L0,g,H⟩∧ ∀ j,j < i→JdK L j=false) ?_ (n:=L.length)
  ⟨0,_,_,by omega,by omega,by simp -implicitDefEqProofs only [bU,reduceIte,Jc,reduceCtorEq,Ja,Jb,bT,Jd,Je,Jf,q0],rfl,rfl,fun j hj=>by omega⟩
 clear q0
 rintro m e M ⟨i,L0,g,hi,rfl,q0,q14,rfl,hp⟩
 by_cases h1:(i:Int) < L.length
 ·have hil:i < L.length:=by omega
  have hx:=Ja5 hs (i:=i) (by rw [QY];omega)
  rw [ZO] at hx
  obtain ⟨z,c,fa,f0,fv,ld,v0,v1,v3,v4,v5,v6,v7,-,-,-,-⟩:=hx
  simp only at v0 v1 v3 v4 v5 v6 v7
  have w9:IntKind.i64.wrap ((i:Int)+1)=((i+1:Nat):Int):=by rw [w64 (by omega) (by omega)];rfl
  have bd:L.length- (i+1) < L.length-i:=by omega
  simp -implicitDefEqProofs only [bU,reduceIte,Jc,reduceCtorEq,Ja,Jb,bT,Jd,Je,Jf,bV,Ja,Jb,Jg,q0,q14,l1,l2,h1]
  refine Jl (fun m e M=> ∃ (k:Nat) (L0:List Lv) (g:Nat),k≤L.length∧m=L.length-k∧look e 0=a∧look e 14= .i .i64 i∧look e 15= .i .i64 k∧M=⟨L0,g,H⟩∧ ∀ j,j < k→Jmg L i j=false) ?_ (n:=L.length)
   ⟨0,_,_,by omega,by omega,rfl,rfl,rfl,rfl,fun j hj=>by omega⟩
  clear q0 q14
  rintro m e M ⟨k,L0,g,hkl,rfl,q0,q14,q15,rfl,hpk⟩
  by_cases h2:(k:Int) < L.length
  ·have hkl2:k < L.length:=by omega
   cases ho:WN L i with
   | true=>
    rw [ho] at v7
    simp -implicitDefEqProofs only [bU,reduceIte,Jc,reduceCtorEq,Ja,Jb,bT,Jd,Je,Jf,bV,Ja,Jb,Jg,q0,q14,q15,l1,l2,h2,Jj,z,c,fa,f0,fv,ld,v7,w9]
    exact ⟨_,bd,i+1,_,_,hil,rfl,rfl,rfl,Y8 hp (JlU fun k _=>by simp [Jmg,ho])⟩
   | false=>
    rw [ho] at v7
    have hx:=Ja5 hs (i:=k) (by rw [QY];omega)
    rw [ZO] at hx
    obtain ⟨zk,ck,fak,f0k,fvk,ldk,v0k,v1k,v3k,v4k,v5k,v6k,v7k,-,-,-,-⟩:=hx
    simp only at v0k v1k v3k v4k v5k v6k v7k
    have w15:IntKind.i64.wrap ((k:Int)+1)=((k+1:Nat):Int):=by rw [w64 (by omega) (by omega)];rfl
    have bk:L.length- (k+1) < L.length-k:=by omega
    have ku:=hU (itZ L i).f (itZ L k).f H (hfl i hil) (hfl k hkl2)
    cases hok:WN L k with
    | true=>
     rw [hok] at v7k
     simp -implicitDefEqProofs only [bU,reduceIte,Jc,reduceCtorEq,Ja,Jb,bT,Jd,Je,Jf,bV,Ja,Jb,Jg,Qs,J6,q0,q14,q15,l1,l2,h2,Jj,z,c,fa,f0,fv,ld,v7,zk,ck,fak,f0k,fvk,ldk,v7k,w15]
     exact ⟨_,bk,k+1,_,_,hkl2,rfl,rfl,rfl,Y8 hpk (by simp [Jmg,hok])⟩
    | false=>
     rw [hok] at v7k
     by_cases h39:(itZ L k).r.t=39
     ·rw [h39] at v1k
      by_cases hf:(itZ L k).f=(itZ L i).f
      ·simp -implicitDefEqProofs only [bU,reduceIte,Jc,reduceCtorEq,Ja,Jb,bT,Jd,Je,Jf,bV,Ja,Jb,Jg,Qs,J6,q0,q14,q15,l1,l2,h2,Jj,z,c,fa,f0,fv,ld,v5,v7,zk,ck,fak,f0k,fvk,ldk,v1k,v5k,v7k,hf,w15]
       exact ⟨_,bk,k+1,_,_,hkl2,rfl,rfl,rfl,Y8 hpk (by simp [Jmg,hf])⟩
      ·cases hu:JfH (itZ L i).f (itZ L k).f with
       | true=>
        rw [hu] at ku
        simp -implicitDefEqProofs only [bU,reduceIte,Jc,reduceCtorEq,Ja,Jb,bT,Jd,Je,Jf,bV,Ja,Jb,Jg,Qs,J6,q0,q14,q15,l1,l2,h2,Jj,z,c,fa,f0,fv,ld,v5,v7,zk,ck,fak,f0k,fvk,ldk,v1k,v5k,v7k,hf,ku]
        exact hit i _ _ _ (Ym hil (Jpb hkl2 (by simp [Jmg,ho,hok,h39,hf,hu])) hp) rfl rfl
       | false=>
        rw [hu] at ku
        simp -implicitDefEqProofs only [bU,reduceIte,Jc,reduceCtorEq,Ja,Jb,bT,Jd,Je,Jf,bV,Ja,Jb,Jg,Qs,J6,q0,q14,q15,l1,l2,h2,Jj,z,c,fa,f0,fv,ld,v5,v7,zk,ck,fak,f0k,fvk,ldk,v1k,v5k,v7k,hf,ku,w15]
        exact ⟨_,bk,k+1,_,_,hkl2,rfl,rfl,rfl,Y8 hpk (by simp [Jmg,hu])⟩
     ·simp -implicitDefEqProofs only [bU,reduceIte,Jc,reduceCtorEq,Ja,Jb,bT,Jd,Je,Jf,bV,Ja,Jb,Jg,Qs,J6,q0,q14,q15,l1,l2,h2,Jj,z,c,fa,f0,fv,ld,v5,v7,zk,ck,fak,f0k,fvk,ldk,v1k,v5k,v7k,h39,w15]
      exact ⟨_,bk,k+1,_,_,hkl2,rfl,rfl,rfl,Y8 hpk (by simp [Jmg,h39])⟩
  ·have hke:k=L.length:=by omega
   subst hke
   simp -implicitDefEqProofs only [bU,reduceIte,Jc,reduceCtorEq,Ja,Jb,bT,Jd,Je,Jf,bV,Ja,Jb,Jg,q0,q14,q15,l1,l2,h2,w9]
   exact ⟨_,bd,i+1,_,_,hil,rfl,rfl,rfl,Y8 hp (JlU hpk)⟩
 ·have hil:i=L.length:=by omega
  subst hil
  have hno:=Yn hp
  simp -implicitDefEqProofs only [bU,reduceIte,Jc,reduceCtorEq,Ja,Jb,bT,Jd,Je,Jf,bV,Ja,Jb,Jg,q0,q14,l1,l2,h1]
  exact miss hno _ _ _ (by simp -implicitDefEqProofs only [bU,reduceIte,Jc,reduceCtorEq,Ja,Jb,bT,Jd,Je,Jf,q0])
def Jio (C:Tab) (f:Nat):Prop:= ∀ (a:AV) (L:List Zi) (apex:List UInt8) (H:AH),Sx H eI a (Je9 L)→L.length≤1000→(∀ i,i < L.length→(itZ L i).f.length≤1099511627776)→apex.length≤1099511627776→C f [a,.s apex] H=some (.tp [.i .i64 (QL L (Jq apex)).1,.i .i64 (QL L (Jq apex)).2],H)
theorem Jp3 {apex:List UInt8} (hF:Jbk C Qn) (hHas:JjI C Wv) (hSt:Jjn C Wm) (hU:JbI C WO) (hs:Sx H eI a (Je9 L)) (hl:L.length≤1000) (hfl: ∀ i,i < L.length→(itZ L i).f.length≤1099511627776) (ha:apex.length≤1099511627776):
  Jt C Jo [a,.s apex] H fun v H'=>v= .tp [.i .i64 (QL L (Jq apex)).1,.i .i64 (QL L (Jq apex)).2]∧H'=H:=by
 have kf:=hF apex H ha
 generalize Jq apex=top at kf ⊢
 obtain ⟨l1,l2⟩:=hs.len
 rw [QY] at l1
 have k6:=hHas a L L.length top 6 H hs (Nat.le_refl _) hl
 have k2:=hHas a L L.length top 2 H hs (Nat.le_refl _) hl
 have fin: ∀ {x y:Int} {e':Env} {L':List Lv} {g':Nat},QL L top=(x,y)→look e' 4= .i .i64 x→look e' 5= .i .i64 y→Jr [.t 4,.t 5] (fun v H'=>v= .tp [.i .i64 (QL L top).1,.i .i64 (QL L top).2]∧H'=H) .rt e' ⟨L',g',H⟩:=fun hr h4 h5=>by
  simp -implicitDefEqProofs only [bU,reduceIte,Jc,reduceCtorEq,Ja,Jb,bT,Jd,Je,Jf,Jr,rsC,rsV,Js,h4,h5,hr]
 unfold Jt
 have hc:Jo.s= .q (sAt Jo.s [0]) (.q (sAt Jo.s [1,0]) (.q (sAt Jo.s [1,1,0]) (.q (sAt Jo.s [1,1,1,0]) (.q (sAt Jo.s [1,1,1,1,0]) (.q (sAt Jo.s [1,1,1,1,1,0]) (.q (sAt Jo.s [1,1,1,1,1,1,0]) (.q (sAt Jo.s [1,1,1,1,1,1,1,0]) (.q (sAt Jo.s [1,1,1,1,1,1,1,1,0]) (sAt Jo.s [1,1,1,1,1,1,1,1,1]))))))))):=rfl
 have hR:Jo.rs=[.t 4,.t 5]:=rfl
 rw [hc,hR]
 rw [x_q,show sAt Jo.s [0]= .o [.mv 4 (.c (.i .i64 0)),.mv 5 (.c (.i .i64 0))] from rfl]
 simp -implicitDefEqProofs only [bU,reduceIte,Jc,reduceCtorEq,Ja,Jb,bT,Jd,Je,Jf]
 rw [show sAt Jo.s [1,0]= .o [.mv 16 (.t 1),.cl (some 17) 222 [.t 16],.mv 6 (.t 17)] from rfl]
 simp -implicitDefEqProofs only [bU,reduceIte,Jc,reduceCtorEq,Ja,Jb,bT,Jd,Je,Jf,kf]
 refine Jr6 hs hl hHas rfl rfl (fun i e' L' g' h h4 h5=> ?_) (fun h1 e1 L1 g1 q0 q6=> ?_)
 ·exact fin (by unfold QL;rw [h]) h4 h5
 simp -implicitDefEqProofs only [bU,reduceIte,Jc,reduceCtorEq,Ja,Jb]
 rw [show sAt Jo.s [1,1,1,0]= .q (.o [.mv 55 (.t 0),.mv 56 (.t 0),.ln 57 (.t 56),.mv 58 (.t 6),.cl (some 59) 292 [(.t 55),(.t 57),(.t 58),(.c (.i .i64 6))],.un 60 .not (.t 59)]) (.i (.t 60) (.q (.o [.mv 4 (.c (.i .i64 20)),.mv 5 (.c (.i .i64 (-1)))]) .r) .k) from rfl]
 cases hb6:hasB L L.length top 6 with
 | false=>
  rw [hb6] at k6
  simp -implicitDefEqProofs only [bU,reduceIte,Jc,reduceCtorEq,Ja,Jb,bT,Jd,Je,Jf,q0,q6,l1,l2,k6,hs.out]
  exact fin (by unfold QL;rw [h1];simp only [hb6,if_true]) rfl rfl
 | true=>
 rw [hb6] at k6
 simp -implicitDefEqProofs only [bU,reduceIte,Jc,reduceCtorEq,Ja,Jb,bT,Jd,Je,Jf,q0,q6,l1,l2,k6,hs.out]
 rw [show sAt Jo.s [1,1,1,1,0]= .q (.o [.mv 61 (.t 0),.mv 62 (.t 0),.ln 63 (.t 62),.mv 64 (.t 6),.cl (some 65) 292 [(.t 61),(.t 63),(.t 64),(.c (.i .i64 2))],.un 66 .not (.t 65)]) (.i (.t 66) (.q (.o [.mv 4 (.c (.i .i64 21)),.mv 5 (.c (.i .i64 (-1)))]) .r) .k) from rfl]
 cases hb2:hasB L L.length top 2 with
 | false=>
  rw [hb2] at k2
  simp -implicitDefEqProofs only [bU,reduceIte,Jc,reduceCtorEq,Ja,Jb,bT,Jd,Je,Jf,q0,q6,l1,l2,k2,hs.out]
  exact fin (by unfold QL;rw [h1];simp [hb6,hb2]) rfl rfl
 | true=>
 rw [hb2] at k2
 simp -implicitDefEqProofs only [bU,reduceIte,Jc,reduceCtorEq,Ja,Jb,bT,Jd,Je,Jf,q0,q6,l1,l2,k2,hs.out]
 refine Jpv hs hl hSt (by simp -implicitDefEqProofs only [bU,reduceIte,Jc,reduceCtorEq,Ja,Jb,bT,Jd,Je,Jf,q0]) (fun i e' L' g' h h4 h5=> ?_) (fun h2 e2 L2 g2 q0=> ?_)
 ·exact fin (by unfold QL;rw [h1];simp [hb6,hb2,h]) h4 h5
 simp -implicitDefEqProofs only [bU,reduceIte,Jc,reduceCtorEq,Ja,Jb]
 refine JqE hs hl hHas q0 (fun i e' L' g' h h4 h5=> ?_) (fun h3 e3 L3 g3 q0=> ?_)
 ·exact fin (by unfold QL;rw [h1];simp [hb6,hb2,h2,h]) h4 h5
 simp -implicitDefEqProofs only [bU,reduceIte,Jc,reduceCtorEq,Ja,Jb]
 refine Juq hs hl hHas q0 (fun i e' L' g' h h4 h5=> ?_) (fun h4' e4 L4 g4 q0=> ?_)
 ·exact fin (by unfold QL;rw [h1];simp [hb6,hb2,h2,h3,h]) h4 h5
 simp -implicitDefEqProofs only [bU,reduceIte,Jc,reduceCtorEq,Ja,Jb]
 refine JsS hs hl hU hfl q0 (fun i e' L' g' h h4 h5=> ?_) (fun h5' e5 L5 g5 q0=> ?_)
 ·exact fin (by unfold QL;rw [h1];simp [hb6,hb2,h2,h3,h4',h]) h4 h5
 simp -implicitDefEqProofs only [bU,reduceIte,Jc,reduceCtorEq,Ja,Jb]
 rw [show sAt Jo.s [1,1,1,1,1,1,1,1,1]= .q (.o [.mv 4 (.c (.i .i64 0)),.mv 5 (.c (.i .i64 0))]) .r from rfl]
 simp -implicitDefEqProofs only [bU,reduceIte,Jc,reduceCtorEq,Ja,Jb,bT,Jd,Je,Jf]
 exact fin (by unfold QL;rw [h1];simp [hb6,hb2,h2,h3,h4',h5']) rfl rfl
end
theorem Qk {t g z:Nat} {x:AV} {L:List Lv} {H:AH}:QE ⟨⟨t,g,0,[x]⟩::L,g+1,H⟩ (.ll t g z 1)=[x]∧Je7 ⟨⟨t,g,0,[x]⟩::L,g+1,H⟩ z (.ll t g z 1):=by
 simp [QE,Je7,Mem.getL,Mem.hasL,Qx]
def VZ (x:Zi):Prop:=(∃ a,JB x.f=some a)∧Jq x.f=x.f
theorem VZ.len {x:Zi} (h:VZ x):x.f.length≤255:=by
 obtain ⟨⟨a,ha⟩,-⟩:=h
 exact (Q9 ha).2.2
def xLt (x y:Zi×Bool):Bool:=iLt x.1 y.1
theorem JuG:Jb0 xLt:=Jvb.comap Prod.fst
theorem Jj8 {α:Type} {lt:α→α→Bool} {x y:α} {a b:List α} (h:lt x y=true):mrg lt (x::a) (y::b)=x::mrg lt a (y::b):=by rw [mrg,if_pos h]
theorem JjR {α:Type} {lt:α→α→Bool} {x y:α} {a b:List α} (h:lt x y=false):mrg lt (x::a) (y::b)=y::mrg lt (x::a) b:=by rw [mrg,if_neg (by rw [h];decide)]
section
variable {C:Tab}
def JdE (a:AV) (xs:List (Zi×Bool)) (H:AH) (v:AV) (H':AH):Prop:=Ext H H'∧ ∃ M,M.Perm xs∧Srt xLt M∧Sx H' eI v M∧Cl H' v
def Jl3 (C:Tab) (f w:Nat):Prop:= ∀ (a:AV) (xs:List (Zi×Bool)) (H:AH),Sx H eI a xs→Cl H a→xs.length≤w→(∀ x,x∈xs→VZ x.1)→ ∃ v H',C f [a] H=some (v,H')∧JdE a xs H v H'
set_option maxHeartbeats 2000000 in
theorem JrC {a:AV} {xs:List (Zi×Bool)} {H:AH} {w:Nat} (hw:w≤1024) (hR:Jl3 C WM w) (hB:JmI C QM) (hs:Sx H eI a xs) (hc:Cl H a) (hn:xs.length≤2*w) (hV: ∀ x,x∈xs→VZ x.1):Jt C QC [a] H (JdE a xs H):=by
 unfold Jt QC
 have ao:=hs.out
 obtain ⟨l1,l2⟩:=hs.len
 by_cases h2:(xs.length:Int) < 2
 ·simp -implicitDefEqProofs only [bU,reduceIte,Jc,reduceCtorEq,Ja,Jb,bT,Jd,Je,Jf,l1,l2,h2,ao,Jr,rsC,rsV,Js]
  refine ⟨.refl _,xs,.refl _,?_,hs,hc⟩
  match xs,h2 with
  | [],_=>exact Srt.nil
  | [x],_=>exact Srt.one
  | _::_::_,h2=>simp at h2;omega
 ·have hq:IntKind.i64.wrap ((xs.length:Int).tdiv 2)=((xs.length / 2:Nat):Int):=by
   have:(xs.length:Int).tdiv 2=((xs.length / 2:Nat):Int):=by rw [Int.tdiv_eq_ediv_of_nonneg (by omega)];omega
   rw [this,w64 (by omega) (by omega)]
  have hl:(xs.map eI.v).length=xs.length:=List.length_map _
  obtain ⟨a1,a2,a3⟩:=Sl.sub (lo:=0) (hi:=(xs.length / 2:Nat)) hs hc (by omega) (by omega) (by rw [hl];omega)
  obtain ⟨b1,b2,b3⟩:=Sl.suf (lo:=(xs.length / 2:Nat)) hs (by omega) (by rw [hl];omega)
  rw [hl] at b1 b3
  have ez:eI.z=8:=rfl
  simp only [Int.toNat_natCast,Int.toNat_zero,List.drop_zero,Nat.sub_zero,←List.map_take] at a3
  simp only [Int.toNat_natCast,←List.map_drop] at b3
  have hcA:Cl H (slV 0 (xs.length / 2) a):=fun i hi=>by rw [JlK] at hi;exact hc i hi
  obtain ⟨v1,H1,k1,e1,A,pA,sA,xA,cA⟩:=hR _ _ H a3 hcA (by simp;omega) fun x hx=>hV x (List.mem_of_mem_take hx)
  have b3':Sx H1 eI (slV (xs.length / 2) xs.length a) (xs.drop (xs.length / 2)):=Sl.ext b3 e1
  have hcB:Cl H1 (slV (xs.length / 2) xs.length a):=fun i hi=>by
   rw [JlK] at hi
   intro rw st z ys he
   rw [e1.at' i (hs.lt i hi)] at he
   exact hc i hi rw st z ys he
  obtain ⟨v2,H2,k2,e2,B,pB,sB,xB,cB⟩:=hR _ _ H1 b3' hcB (by simp;omega) fun x hx=>hV x (List.mem_of_mem_drop hx)
  have lA:A.length=xs.length / 2:=by rw [pA.length_eq,List.length_take];omega
  have lB:B.length=xs.length-xs.length / 2:=by rw [pB.length_eq,List.length_drop]
  have vA: ∀ x,x∈A→VZ x.1:=fun x hx=>hV x (List.mem_of_mem_take (pA.mem_iff.1 hx))
  have vB: ∀ x,x∈B→VZ x.1:=fun x hx=>hV x (List.mem_of_mem_drop (pB.mem_iff.1 hx))
  have xA2:Sx H2 eI v1 A:=Sl.ext xA e2
  obtain ⟨m1,m2⟩:=xA2.len
  obtain ⟨m3,m4⟩:=xB.len
  have oA:=xA2.out
  have oB:=xB.out
  rw [ez] at a2 b2
  have hfin: ∀ {H':AH} {o:AV},Ext H2 H'→Mx H' eI o (mrg xLt A B)→Cl H' o→JdE a xs H o H':=fun he hm hcl=>by
   refine ⟨(e1.trans e2).trans he,mrg xLt A B,?_,Jic JuG _ A B (Nat.le_refl _) sA sB,hm.sl,hcl⟩
   have:=(Jcg (lt:=xLt) _ A B (Nat.le_refl _)).trans (pA.append pB)
   rwa [List.take_append_drop] at this
  have b2':slZ H1 8 a:=(b3' |> fun h=>by have:=(Sl.ext hs e1).rd.2.1;rwa [ez] at this)
  simp -implicitDefEqProofs only [bU,reduceIte,Jc,reduceCtorEq,Ja,Jb,bT,Jd,Je,Jf,l1,l2,h2,ao,hq,a1,a2,k1,b1,b2',k2,Jj,Int.toNat_zero,a3.out,b3.out,oA,oB,Jh,JE,JQ,List.replicate]
  refine ⟨by decide,by decide,?_⟩
  refine Jl (fun m e M=> ∃ (i k:Nat) (o:AV) (O:List (Zi×Bool)) (H':AH) (L0:List Lv) (g:Nat),i≤A.length∧k≤B.length∧m=A.length-i+(B.length-k)∧look e 3=v1∧look e 4=v2∧look e 5=o∧look e 6= .i .i64 i∧look e 7= .i .i64 k∧M=⟨L0,g,H'⟩∧Ext H2 H'∧Mx H' eI o O∧Cl H' o∧(∀ j,j∈idA o→H2.n≤j)∧O++mrg xLt (A.drop i) (B.drop k)=mrg xLt A B∧O.length=i+k) ?_ (n:=A.length+B.length)
   ⟨0,0,.sl H2.n 0 0,[],H2.new (.arr true 0 8 []),_,_,by omega,by omega,by omega,rfl,rfl,rfl,rfl,rfl,rfl,.new _ _,.own (by simp) QD,fun i hi rw st z xs he=>by
    simp only [idA,List.mem_singleton] at hi
    subst hi
    rw [QD] at he
    cases he;decide,fun i hi=>by simp only [idA,List.mem_singleton] at hi;omega,by simp,by simp⟩
  clear k1 k2 a1 a2 a3 b1 b2 b2' b3 b3' hcA hcB
  rintro m e M ⟨i,k,o,O,H',L0,g,hi,hk,rfl,q3,q4,q5,q6,q7,rfl,he,hm,hcl,hid,hO,hOl⟩
  obtain ⟨n1,n2⟩:=Sx.len (Sl.ext xA2 he)
  obtain ⟨n3,n4⟩:=Sx.len (Sl.ext xB he)
  have oo:=hm.sl.out
  have hcw: ∀ x:Zi×Bool,(eI.v x).cells.length=8:=fun _=>rfl
  have how: ∀ x:Zi×Bool,(eI.v x).outs=true:=fun _=>rfl
  have nxt: ∀ {x:Zi×Bool} {i' k':Nat} {o':AV} {H3:AH},Ext H2 H'→H'.n≤H3.n→(∀ j,j < H'.n→ ¬ j∈idA o→H3.at' j=H'.at' j)→Ext H2 H3:=fun he h1 h2=>⟨Nat.le_trans he.n h1,fun j hj=>by rw [h2 j (Nat.lt_of_lt_of_le hj he.n) fun hh=>by have:=hid j hh;omega];exact he.at' j hj⟩
  have hmap: ∀ x:Zi×Bool,O.map eI.v++[eI.v x]=(O++[x]).map eI.v:=fun x=>by simp
  have wi:IntKind.i64.wrap ((i:Int)+1)=((i+1:Nat):Int):=by rw [w64 (by omega) (by omega)];rfl
  have wk:IntKind.i64.wrap ((k:Int)+1)=((k+1:Nat):Int):=by rw [w64 (by omega) (by omega)];rfl
  have bi:i < A.length→A.length- (i+1)+(B.length-k) < A.length-i+(B.length-k):=fun h=>by omega
  have bk:k < B.length→A.length-i+(B.length- (k+1)) < A.length-i+(B.length-k):=fun h=>by omega
  by_cases cA1:(i:Int) < A.length
  ·have iA:i < A.length:=by omega
   have xa:=Ja5 (Sl.ext xA2 he) iA
   obtain ⟨za,ca,-,-,-,-,-,-,-,-,-,-,-,wca,wva,-,-⟩:=xa
   obtain ⟨p1,o',H3,p2,p3,p4,p5,p6,p7,-,p9⟩:=Mn.ap (by':=96) hm (Qk (t:=61) (g:=g) (x:=eI.v A[i]) (L:=ZK (JJ [3,4,5,6,7] L0) 61) (H:=H')) (by simp;omega)
   have hid': ∀ j,j∈idA o'→H2.n≤j:=fun j hj=>(p7 j hj).elim (hid j) fun h=>Nat.le_trans he.n h
   have dA:A.drop i=A[i]::A.drop (i+1):=List.drop_eq_getElem_cons iA
   rw [ez] at p1 p2 p3
   by_cases cB1:(k:Int) < B.length
   ·have kB:k < B.length:=by omega
    have xb:=Ja5 (Sl.ext xB he) kB
    obtain ⟨zb,cb,-,-,-,-,-,-,-,-,-,-,-,wcb,wvb,-,-⟩:=xb
    have dB:B.drop k=B[k]::B.drop (k+1):=List.drop_eq_getElem_cons kB
    have cne: ¬ (k:Int)=B.length:=by omega
    have va:=vA _ (List.getElem_mem iA)
    have vb:=vB _ (List.getElem_mem kB)
    have kb:C QM [eI.v A[i],eI.v B[k]] H'=some (.b (JqV A[i].1 B[k].1),H'):=hB A[i].1 B[k].1 A[i].2 B[k].2 H' (by have:=va.len;omega) (by have:=vb.len;omega)
    rw [JmQ va.1 vb.1 va.2 vb.2] at kb
    cases hlt:iLt A[i].1 B[k].1 with
    | true=>
     rw [hlt] at kb
     simp -implicitDefEqProofs only [bU,reduceIte,Jc,reduceCtorEq,Ja,Jb,bT,Jd,Je,Jf,bV,Ja,Jb,Jg,Qs,J6,q3,q4,q5,q6,q7,n1,n2,n3,n4,cA1,cB1,cne,Jj,za,ca,wca,wva,zb,cb,wcb,wvb,hcw,how,kb,JE,JQ,List.replicate,List.set]
     simp -implicitDefEqProofs only [bU,reduceIte,Jc,reduceCtorEq,Ja,Jb,p1,p2,p3,wi]
     refine ⟨_,bi iA,i+1,k,o',O++[A[i]],H3,_,_,by omega,hk,rfl,rfl,rfl,rfl,rfl,nxt (i':=0) (k':=0) (o':=o) (x:=A[i]) he p5 p6,hmap A[i] ▸p4,p9 hcl,hid',?_,by simp;omega⟩
     rw [←hO,dA,dB,Jj8 (show xLt A[i] B[k]=true from hlt)]
     simp
    | false=>
     rw [hlt] at kb
     obtain ⟨r1,o2,H4,r2,r3,r4,r5,r6,r7,-,r9⟩:=Mn.ap (by':=96) hm (Qk (t:=70) (g:=g) (x:=eI.v B[k]) (L:=ZK (JJ [3,4,5,6,7] L0) 70) (H:=H')) (by simp;omega)
     have hid2: ∀ j,j∈idA o2→H2.n≤j:=fun j hj=>(r7 j hj).elim (hid j) fun h=>Nat.le_trans he.n h
     rw [ez] at r1 r2 r3
     simp -implicitDefEqProofs only [bU,reduceIte,Jc,reduceCtorEq,Ja,Jb,bT,Jd,Je,Jf,bV,Ja,Jb,Jg,Qs,J6,q3,q4,q5,q6,q7,n1,n2,n3,n4,cA1,cB1,cne,Jj,za,ca,wca,wva,zb,cb,wcb,wvb,hcw,how,kb,JE,JQ,List.replicate,List.set]
     simp -implicitDefEqProofs only [bU,reduceIte,Jc,reduceCtorEq,Ja,Jb,r1,r2,r3,wk]
     refine ⟨_,bk kB,i,k+1,o2,O++[B[k]],H4,_,_,hi,by omega,rfl,rfl,rfl,rfl,rfl,nxt (i':=0) (k':=0) (o':=o) (x:=A[i]) he r5 r6,hmap B[k] ▸r4,r9 hcl,hid2,?_,by simp;omega⟩
     rw [←hO,dA,dB,JjR (show xLt A[i] B[k]=false from hlt)]
     simp
   ·have ke:(k:Int)=B.length:=by omega
    have ke':((k:Int)=B.length)=True:=eq_true ke
    simp -implicitDefEqProofs only [bU,reduceIte,Jc,reduceCtorEq,Ja,Jb,bT,Jd,Je,Jf,bV,Ja,Jb,Jg,Qs,J6,q3,q4,q5,q6,q7,n1,n2,n3,n4,cA1,ke',Jj,za,ca,wca,wva,hcw,how,JE,JQ,List.replicate,List.set]
    simp -implicitDefEqProofs only [bU,reduceIte,Jc,reduceCtorEq,Ja,Jb,p1,p2,p3,wi]
    refine ⟨_,bi iA,i+1,k,o',O++[A[i]],H3,_,_,by omega,hk,rfl,rfl,rfl,rfl,rfl,nxt (i':=0) (k':=0) (o':=o) (x:=A[i]) he p5 p6,hmap A[i] ▸p4,p9 hcl,hid',?_,by simp;omega⟩
    have dB:B.drop k=[]:=List.drop_of_length_le (by omega)
    rw [←hO,dA,dB,JlF,JlF]
    simp
  ·have ie:i=A.length:=by omega
   have dA:A.drop i=[]:=List.drop_of_length_le (by omega)
   by_cases cB1:(k:Int) < B.length
   ·have kB:k < B.length:=by omega
    have xb:=Ja5 (Sl.ext xB he) kB
    obtain ⟨zb,cb,-,-,-,-,-,-,-,-,-,-,-,wcb,wvb,-,-⟩:=xb
    have dB:B.drop k=B[k]::B.drop (k+1):=List.drop_eq_getElem_cons kB
    have cne: ¬ (k:Int)=B.length:=by omega
    obtain ⟨r1,o2,H4,r2,r3,r4,r5,r6,r7,-,r9⟩:=Mn.ap (by':=96) hm (Qk (t:=70) (g:=g) (x:=eI.v B[k]) (L:=ZK (JJ [3,4,5,6,7] L0) 70) (H:=H')) (by simp;omega)
    have hid2: ∀ j,j∈idA o2→H2.n≤j:=fun j hj=>(r7 j hj).elim (hid j) fun h=>Nat.le_trans he.n h
    rw [ez] at r1 r2 r3
    simp -implicitDefEqProofs only [bU,reduceIte,Jc,reduceCtorEq,Ja,Jb,bT,Jd,Je,Jf,bV,Ja,Jb,Jg,Qs,J6,q3,q4,q5,q6,q7,n1,n2,n3,n4,cA1,cB1,cne,Jj,zb,cb,wcb,wvb,hcw,how,JE,JQ,List.replicate,List.set]
    simp -implicitDefEqProofs only [bU,reduceIte,Jc,reduceCtorEq,Ja,Jb,r1,r2,r3,wk]
    refine ⟨_,bk kB,i,k+1,o2,O++[B[k]],H4,_,_,hi,by omega,rfl,rfl,rfl,rfl,rfl,nxt (i':=0) (k':=0) (o':=o) (x:=B[k]) he r5 r6,hmap B[k] ▸r4,r9 hcl,hid2,?_,by simp;omega⟩
    rw [←hO,dA,dB]
    simp [mrg]
   ·have ke:k=B.length:=by omega
    subst ie ke
    simp -implicitDefEqProofs only [bU,reduceIte,Jc,reduceCtorEq,Ja,Jb,bT,Jd,Je,Jf,bV,Ja,Jb,Jg,q3,q4,q5,q6,q7,n1,n2,n3,n4,cA1,cB1,oo,Jr,rsC,rsV,Js]
    have:O=mrg xLt A B:=by rw [←hO];simp [mrg]
    rw [this] at hm
    exact hfin he hm hcl
end
end Go.Vm
