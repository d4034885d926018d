import Derived.Test.YtgoalfkgbiblgaaGreatDoorKb3
import Derived.Test.YtgoalfkgbiblgaaGreatDoorProg
import Derived.KernelRfl
import Derived.Test.YtgoalfkgbiblgaaGreatDoorKb4
import Derived.Test.YtgoalfkgbiblgaaGreatDoorKb8
/- Functions' code as literals of the abstract machine, printed by wip/tools/lits.py; the kernel checks each against the translation. -/
set_option linter.unusedVariables false
set_option linter.unusedSimpArgs false
set_option maxRecDepth 100000
open Nat renaming reduceEqDiff→Jc,reduceAdd→Ja,reduceLT→Jb,reduceLeDiff→Jg
open Int renaming reduceEq→Jh,reduceLT→Ji
namespace Go.Vm
def WC:Fn:=⟨1,[(.t 2)],
  .q (.o [.lbx 1 (.t 0),
   .mv 2 (.c (.i .i64 0))])
  (.q (.q (.o [.fa 6 (.t 1) 1,
   .ld 7 (.t 6) none,
   .ln 8 (.t 7),
   .bn 9 .gtr (.t 8) (.c (.i .i64 500)),
   .mv 10 (.t 9),
   .gd 10 false (.ld 11 (.t 1) (some 2)),
   .gd 10 false (.cl (some 12) 166 [(.t 11)]),
   .gd 10 false (.bn 13 .gtr (.t 12) (.c (.i .i64 500))),
   .pk 14 (.t 10) (.c (.b true)) (.t 13)])
  (.i (.t 14) (.q (.o [.mv 2 (.c (.i .i64 32))])
  (.r))
  (.k)))
  (.q (.p [⟨.ld 16 (.t 1) (some 2),[],true⟩,
   ⟨.cl (some 17) 167 [(.t 16)],[],true⟩,
   ⟨.fa 18 (.t 1) 0,[],false⟩,
   ⟨.ld 19 (.t 18) none,[1],true⟩,
   ⟨.cl (some 20) 142 [(.t 17),(.t 19)],[],false⟩,
   ⟨.mv 15 (.t 20),[],false⟩,
   ⟨.ex 21 (.t 15) 0,[],false⟩,
   ⟨.ex 22 (.t 15) 1,[],false⟩,
   ⟨.ex 23 (.t 15) 2,[],false⟩,
   ⟨.lal 3 (.ag [(.s []),.ns]),[0,3],false⟩,
   ⟨.st (.t 3) (.t 21) 2,[],false⟩,
   ⟨.mv 4 (.t 22),[],false⟩,
   ⟨.mv 5 (.t 23),[],false⟩])
  (.q (.q (.o [.mv 24 (.t 4),
   .bn 25 .neq (.t 24) (.c (.i .i64 0)),
   .mv 26 (.t 25),
   .gd 26 false (.ld 27 (.t 3) (some 2)),
   .gd 26 false (.ld 28 (.t 1) (some 2)),
   .gd 26 false (.cl (some 29) 168 [(.t 27),(.t 28)]),
   .gd 26 false (.un 30 .not (.t 29)),
   .pk 31 (.t 26) (.c (.b true)) (.t 30)])
  (.i (.t 31) (.q (.o [.mv 2 (.c (.i .i64 32))])
  (.r))
  (.k)))
  (.q (.o [.mv 2 (.c (.i .i64 0))])
  (.r)))))⟩
abbrev Yf:Nat:=76
theorem Jdp:Qi Go.Proofs.Tryz.prog WC 76=true:=by kernel_rfl
def WH:Fn:=⟨1,[(.t 2)],
  .q (.o [.lbx 1 (.t 0),
   .mv 2 (.c (.i .i64 0))])
  (.q (.o [.mv 3 (.c (.i .i64 0))])
  (.q (.q (.o [.fa 9 (.t 1) 1,
   .ld 10 (.t 9) none,
   .ln 11 (.t 10),
   .mv 12 (.c (.i .i64 0))])
  (.b 0 (.l [1,3,10,11,12] (.q (.o [.bn 13 .lss (.t 12) (.t 11)])
  (.q (.i (.t 13) (.k)
  (.x 0))
  (.q (.b 1 (.q (.o [.ia 14 (.t 10) (.t 12) 4,
   .ld 15 (.t 14) (some 4),
   .lal 5 (.ag [(.s []),(.i .i64 0),(.i .i64 0),.ns]),
   .st (.t 5) (.t 15) 4])
  (.q (.q (.o [.fa 16 (.t 5) 3,
   .ld 17 (.t 16) none,
   .ln 18 (.t 17),
   .bn 19 .eql (.t 18) (.c (.i .i64 0))])
  (.i (.t 19) (.q (.o [.mv 2 (.c (.i .i64 32))])
  (.r))
  (.k)))
  (.o [.mv 20 (.t 3),
   .fa 21 (.t 5) 3,
   .ld 22 (.t 21) none,
   .ln 23 (.t 22),
   .bn 24 .add (.t 20) (.t 23),
   .mv 3 (.t 24)]))))
  (.o [.bn 25 .add (.t 12) (.c (.i .i64 1)),
   .mv 12 (.t 25)])))))))
  (.q (.q (.o [.mv 26 (.t 3),
   .bn 27 .gtr (.t 26) (.c (.i .i64 500))])
  (.i (.t 27) (.q (.o [.mv 2 (.c (.i .i64 32))])
  (.r))
  (.k)))
  (.q (.p [⟨.ld 29 (.t 1) (some 2),[],true⟩,
   ⟨.cl (some 30) 172 [(.t 29)],[],true⟩,
   ⟨.fa 31 (.t 1) 0,[],false⟩,
   ⟨.ld 32 (.t 31) none,[1],true⟩,
   ⟨.cl (some 33) 110 [(.t 30),(.t 32)],[],false⟩,
   ⟨.mv 28 (.t 33),[],false⟩,
   ⟨.ex 34 (.t 28) 0,[],false⟩,
   ⟨.ex 35 (.t 28) 1,[],false⟩,
   ⟨.ex 36 (.t 28) 2,[],false⟩,
   ⟨.lal 6 (.ag [(.s []),.ns]),[0,3],false⟩,
   ⟨.st (.t 6) (.t 34) 2,[],false⟩,
   ⟨.mv 7 (.t 35),[],false⟩,
   ⟨.mv 8 (.t 36),[],false⟩])
  (.q (.q (.o [.mv 37 (.t 7),
   .bn 38 .neq (.t 37) (.c (.i .i64 0)),
   .mv 39 (.t 38),
   .gd 39 false (.ld 40 (.t 1) (some 2)),
   .gd 39 false (.ld 41 (.t 6) (some 2)),
   .gd 39 false (.cl (some 42) 162 [(.t 40),(.t 41)]),
   .gd 39 false (.un 43 .not (.t 42)),
   .pk 44 (.t 39) (.c (.b true)) (.t 43)])
  (.i (.t 44) (.q (.o [.mv 2 (.c (.i .i64 32))])
  (.r))
  (.k)))
  (.q (.o [.mv 2 (.c (.i .i64 0))])
  (.r)))))))⟩
abbrev Yi:Nat:=81
theorem Jdc:Qi Go.Proofs.Tryz.prog WH 81=true:=by kernel_rfl
def Jk:Fn:=⟨2,[(.c 4 (some 2)),(.t 5),(.t 6)],
  .q (.o [.lal 4 (.ag [(.s []),.ns]),
   .mv 5 (.c (.i .i64 0)),
   .mv 6 (.c (.i .i64 0))])
  (.q (.q (.o [.mv 54 (.t 1),
   .cl (some 55) 114 [(.t 54)],
   .un 56 .not (.t 55)])
  (.i (.t 56) (.q (.o [.bd 57 [(.s []),.ns] [],
   .st (.t 4) (.t 57) 2,
   .mv 5 (.c (.i .i64 32)),
   .mv 6 (.c (.i .i64 (-1)))])
  (.r))
  (.k)))
  (.q (.q (.o [.mv 58 (.t 0),
   .ln 59 (.t 58),
   .bn 60 .gtr (.t 59) (.c (.i .i64 500))])
  (.i (.t 60) (.q (.o [.bd 61 [(.s []),.ns] [],
   .st (.t 4) (.t 61) 2,
   .mv 5 (.c (.i .i64 12)),
   .mv 6 (.c (.i .i64 (-1)))])
  (.r))
  (.k)))
  (.q (.q (.o [.mv 62 (.t 0),
   .ln 63 (.t 62),
   .mv 64 (.c (.i .i64 0))])
  (.b 0 (.l [0,1,4,62,63,64] (.q (.o [.bn 65 .lss (.t 64) (.t 63)])
  (.q (.i (.t 65) (.k)
  (.x 0))
  (.q (.b 1 (.q (.o [.mv 66 (.t 64),
   .ia 67 (.t 62) (.t 64) 5,
   .ld 68 (.t 67) (some 5),
   .lal 8 (.ag [(.s []),(.i .i64 0),(.i .i64 0),(.i .i64 0),(.s [])]),
   .mv 7 (.t 66),
   .st (.t 8) (.t 68) 5])
  (.q (.o [.mv 9 (.c (.i .i64 0))])
  (.q (.b 2 (.q (.o [.fa 70 (.t 8) 0,
   .ld 71 (.t 70) none,
   .cl (some 72) 114 [(.t 71)],
   .un 73 .not (.t 72),
   .mv 69 (.t 73)])
  (.i (.t 69) (.o [.mv 9 (.c (.i .i64 1))])
  (.q (.o [.fa 75 (.t 8) 2,
   .ld 76 (.t 75) none,
   .bn 77 .neq (.t 76) (.c (.i .i64 1)),
   .mv 74 (.t 77)])
  (.i (.t 74) (.o [.mv 9 (.c (.i .i64 19))])
  (.q (.o [.fa 79 (.t 8) 3,
   .ld 80 (.t 79) none,
   .cl (some 81) 82 [(.t 80),(.c (.i .i64 0)),(.c (.i .i64 2147483647))],
   .un 82 .not (.t 81),
   .mv 78 (.t 82)])
  (.i (.t 78) (.o [.mv 9 (.c (.i .i64 18))])
  (.q (.o [.fa 84 (.t 8) 1,
   .ld 85 (.t 84) none,
   .cl (some 86) 105 [(.t 85)],
   .mv 87 (.t 86),
   .gd 87 false (.fa 88 (.t 8) 1),
   .gd 87 false (.ld 89 (.t 88) none),
   .gd 87 false (.cl (some 90) 82 [(.t 89),(.c (.i .i64 1)),(.c (.i .i64 65535))]),
   .gd 87 false (.un 91 .not (.t 90)),
   .pk 92 (.t 87) (.c (.b true)) (.t 91),
   .mv 83 (.t 92)])
  (.i (.t 83) (.o [.mv 9 (.c (.i .i64 6))])
  (.q (.o [.fa 94 (.t 8) 1,
   .ld 95 (.t 94) none,
   .fa 96 (.t 8) 4,
   .ld 97 (.t 96) none,
   .cl (some 98) 106 [(.t 95),(.t 97)],
   .bn 99 .neq (.t 98) (.c (.i .i64 0)),
   .mv 93 (.t 99)])
  (.i (.t 93) (.o [.mv 9 (.c (.i .i64 7))])
  (.q (.o [.fa 101 (.t 8) 0,
   .ld 102 (.t 101) none,
   .mv 103 (.t 1),
   .cl (some 104) 103 [(.t 102),(.t 103)],
   .un 105 .not (.t 104),
   .mv 100 (.t 105)])
  (.i (.t 100) (.o [.mv 9 (.c (.i .i64 22))])
  (.k))))))))))))))
  (.q (.o [.mv 106 (.t 9),
   .bn 107 .neq (.t 106) (.c (.i .i64 0))])
  (.i (.t 107) (.q (.o [.bd 108 [(.s []),.ns] [],
   .mv 109 (.t 9),
   .mv 110 (.t 7),
   .st (.t 4) (.t 108) 2,
   .mv 5 (.t 109),
   .mv 6 (.t 110)])
  (.r))
  (.k)))))))
  (.o [.bn 111 .add (.t 64) (.c (.i .i64 1)),
   .mv 64 (.t 111)])))))))
  (.q (.o [.mkm 112,
   .mv 10 (.t 112)])
  (.q (.o [.mkm 113,
   .mv 11 (.t 113)])
  (.q (.o [.mv 12 (.c .ns)])
  (.q (.q (.o [.mv 114 (.t 0),
   .ln 115 (.t 114),
   .mv 116 (.c (.i .i64 0))])
  (.b 3 (.l [0,1,4,10,11,12,114,115,116] (.q (.o [.bn 117 .lss (.t 116) (.t 115)])
  (.q (.i (.t 117) (.k)
  (.x 3))
  (.q (.b 4 (.q (.o [.mv 118 (.t 116),
   .ia 119 (.t 114) (.t 116) 5,
   .ld 120 (.t 119) (some 5),
   .lal 14 (.ag [(.s []),(.i .i64 0),(.i .i64 0),(.i .i64 0),(.s [])]),
   .mv 13 (.t 118),
   .st (.t 14) (.t 120) 5])
  (.q (.p [⟨.fa 121 (.t 14) 0,[],false⟩,
   ⟨.ld 122 (.t 121) none,[],true⟩,
   ⟨.cl (some 123) 104 [(.t 122)],[],true⟩,
   ⟨.fa 124 (.t 14) 1,[],false⟩,
   ⟨.ld 125 (.t 124) none,[2],true⟩,
   ⟨.bd 126 [(.s []),(.i .i64 0)] [(0,1,(.t 123)),(1,1,(.t 125))],[],false⟩,
   ⟨.lal 15 (.ag [(.s []),(.i .i64 0)]),[1,4],false⟩,
   ⟨.st (.t 15) (.t 126) 2,[],false⟩])
  (.q (.o [.mv 128 (.t 10),
   .ld 129 (.t 15) (some 2),
   .lk 130 (.t 128) (.t 129) (.i .i64 0) [.s,(.i .i64)] true,
   .mv 127 (.t 130),
   .ex 131 (.t 127) 0,
   .ex 132 (.t 127) 1,
   .mv 16 (.t 131),
   .mv 17 (.t 132)])
  (.q (.q (.o [.mv 133 (.t 17),
   .mv 134 (.t 133),
   .gd 134 true (.mv 135 (.t 16)),
   .gd 134 true (.fa 136 (.t 14) 3),
   .gd 134 true (.ld 137 (.t 136) none),
   .gd 134 true (.bn 138 .neq (.t 135) (.t 137)),
   .pk 139 (.t 134) (.t 138) (.c (.b false))])
  (.i (.t 139) (.q (.o [.bd 140 [(.s []),.ns] [],
   .mv 141 (.t 13),
   .st (.t 4) (.t 140) 2,
   .mv 5 (.c (.i .i64 24)),
   .mv 6 (.t 141)])
  (.r))
  (.k)))
  (.q (.o [.mv 142 (.t 10),
   .ld 143 (.t 15) (some 2),
   .fa 144 (.t 14) 3,
   .ld 145 (.t 144) none,
   .mu (.t 142) (.t 143) (.t 145) [.s,(.i .i64)]])
  (.q (.p [⟨.fa 146 (.t 15) 0,[],false⟩,
   ⟨.ld 147 (.t 146) none,[],true⟩,
   ⟨.fa 148 (.t 14) 1,[],false⟩,
   ⟨.ld 149 (.t 148) none,[],false⟩,
   ⟨.cl (some 150) 188 [(.t 149)],[1],true⟩,
   ⟨.bn 151 .add (.t 147) (.t 150),[],false⟩,
   ⟨.fa 152 (.t 14) 1,[],false⟩,
   ⟨.ld 153 (.t 152) none,[4],false⟩,
   ⟨.fa 154 (.t 14) 4,[],false⟩,
   ⟨.ld 155 (.t 154) none,[4],false⟩,
   ⟨.cl (some 156) 107 [(.t 153),(.t 155)],[1],false⟩,
   ⟨.bn 157 .add (.t 151) (.t 156),[],false⟩,
   ⟨.mv 18 (.t 157),[],false⟩])
  (.q (.o [.mv 158 (.t 11),
   .mv 159 (.t 18),
   .lk 160 (.t 158) (.t 159) (.b false) [.s] false,
   .un 161 .not (.t 160)])
  (.i (.t 161) (.q (.o [.mv 162 (.t 11),
   .mv 163 (.t 18),
   .mu (.t 162) (.t 163) (.c (.b true)) [.s]])
  (.o [.mv 164 (.t 12),
   .mv 165 (.t 13),
   .lbs 166 (.i .i64 0) 1 1 [(0,(.t 165))],
   .ap 167 (.t 164) (.t 166) 1 8,
   .mv 12 (.t 167)]))
  (.k))))))))))
  (.o [.bn 168 .add (.t 116) (.c (.i .i64 1)),
   .mv 116 (.t 168)])))))))
  (.q (.o [.mv 169 (.t 1),
   .cl (some 170) 104 [(.t 169)],
   .mv 19 (.t 170)])
  (.q (.o [.mv 20 (.c (.b false)),
   .mv 21 (.c (.b false))])
  (.q (.q (.o [.mv 171 (.t 12),
   .ln 172 (.t 171),
   .mv 173 (.c (.i .i64 0))])
  (.b 5 (.l [0,1,4,12,19,20,21,171,172,173] (.q (.o [.bn 174 .lss (.t 173) (.t 172)])
  (.q (.i (.t 174) (.k)
  (.x 5))
  (.q (.b 6 (.q (.o [.ia 175 (.t 171) (.t 173) 1,
   .ld 176 (.t 175) none,
   .mv 23 (.t 176)])
  (.q (.o [.mv 177 (.t 0),
   .mv 178 (.t 23),
   .ia 179 (.t 177) (.t 178) 5,
   .ld 180 (.t 179) (some 5),
   .lal 24 (.ag [(.s []),(.i .i64 0),(.i .i64 0),(.i .i64 0),(.s [])]),
   .st (.t 24) (.t 180) 5])
  (.q (.q (.o [.fa 181 (.t 24) 1,
   .ld 182 (.t 181) none,
   .bn 183 .eql (.t 182) (.c (.i .i64 6))])
  (.i (.t 183) (.q (.q (.o [.fa 184 (.t 24) 0,
   .ld 185 (.t 184) none,
   .cl (some 186) 104 [(.t 185)],
   .mv 187 (.t 19),
   .bn 188 .neq (.t 186) (.t 187),
   .mv 189 (.t 188),
   .gd 189 false (.mv 190 (.t 20)),
   .pk 191 (.t 189) (.c (.b true)) (.t 190)])
  (.i (.t 191) (.q (.o [.bd 192 [(.s []),.ns] [],
   .mv 193 (.t 23),
   .st (.t 4) (.t 192) 2,
   .mv 5 (.c (.i .i64 20)),
   .mv 6 (.t 193)])
  (.r))
  (.k)))
  (.o [.mv 20 (.c (.b true))]))
  (.k)))
  (.o [.mv 194 (.t 21),
   .mv 195 (.t 194),
   .gd 195 false (.fa 196 (.t 24) 1),
   .gd 195 false (.ld 197 (.t 196) none),
   .gd 195 false (.bn 198 .eql (.t 197) (.c (.i .i64 2))),
   .gd 195 false (.mv 199 (.t 198)),
   .gd 199 true (.fa 200 (.t 24) 0),
   .gd 199 true (.ld 201 (.t 200) none),
   .gd 199 true (.cl (some 202) 104 [(.t 201)]),
   .gd 199 true (.mv 203 (.t 19)),
   .gd 199 true (.bn 204 .eql (.t 202) (.t 203)),
   .gd 195 false (.pk 205 (.t 199) (.t 204) (.c (.b false))),
   .pk 206 (.t 195) (.c (.b true)) (.t 205),
   .mv 21 (.t 206)])))))
  (.o [.bn 207 .add (.t 173) (.c (.i .i64 1)),
   .mv 173 (.t 207)])))))))
  (.q (.q (.o [.mv 208 (.t 20),
   .un 209 .not (.t 208)])
  (.i (.t 209) (.q (.o [.bd 210 [(.s []),.ns] [],
   .st (.t 4) (.t 210) 2,
   .mv 5 (.c (.i .i64 20)),
   .mv 6 (.c (.i .i64 (-1)))])
  (.r))
  (.k)))
  (.q (.q (.o [.mv 211 (.t 21),
   .un 212 .not (.t 211)])
  (.i (.t 212) (.q (.o [.bd 213 [(.s []),.ns] [],
   .st (.t 4) (.t 213) 2,
   .mv 5 (.c (.i .i64 21)),
   .mv 6 (.c (.i .i64 (-1)))])
  (.r))
  (.k)))
  (.q (.q (.o [.mv 214 (.t 12),
   .ln 215 (.t 214),
   .mv 216 (.c (.i .i64 0))])
  (.b 7 (.l [0,1,4,12,214,215,216] (.q (.o [.bn 217 .lss (.t 216) (.t 215)])
  (.q (.i (.t 217) (.k)
  (.x 7))
  (.q (.b 8 (.q (.o [.ia 218 (.t 214) (.t 216) 1,
   .ld 219 (.t 218) none,
   .mv 26 (.t 219)])
  (.q (.o [.mv 220 (.t 0),
   .mv 221 (.t 26),
   .ia 222 (.t 220) (.t 221) 5,
   .ld 223 (.t 222) (some 5),
   .lal 27 (.ag [(.s []),(.i .i64 0),(.i .i64 0),(.i .i64 0),(.s [])]),
   .st (.t 27) (.t 223) 5])
  (.q (.o [.fa 224 (.t 27) 0,
   .ld 225 (.t 224) none,
   .cl (some 226) 182 [(.t 225)],
   .mv 28 (.t 226)])
  (.q (.o [.fa 227 (.t 27) 1,
   .ld 228 (.t 227) none,
   .bn 229 .eql (.t 228) (.c (.i .i64 2)),
   .mv 230 (.t 229),
   .gd 230 false (.fa 231 (.t 27) 1),
   .gd 230 false (.ld 232 (.t 231) none),
   .gd 230 false (.bn 233 .eql (.t 232) (.c (.i .i64 39))),
   .pk 234 (.t 230) (.c (.b true)) (.t 233),
   .mv 235 (.t 234),
   .gd 235 true (.mv 236 (.t 28)),
   .gd 235 true (.ln 237 (.t 236)),
   .gd 235 true (.bn 238 .gtr (.t 237) (.c (.i .i64 0))),
   .pk 239 (.t 235) (.t 238) (.c (.b false)),
   .mv 240 (.t 239),
   .gd 240 true (.mv 241 (.t 28)),
   .gd 240 true (.ia 242 (.t 241) (.c (.i .i64 0)) 1),
   .gd 240 true (.ld 243 (.t 242) none),
   .gd 240 true (.bn 244 .eql (.t 243) (.c (.s [42]))),
   .pk 245 (.t 240) (.t 244) (.c (.b false))])
  (.i (.t 245) (.q (.o [.bd 246 [(.s []),.ns] [],
   .mv 247 (.t 26),
   .st (.t 4) (.t 246) 2,
   .mv 5 (.c (.i .i64 26)),
   .mv 6 (.t 247)])
  (.r))
  (.k)))))))
  (.o [.bn 248 .add (.t 216) (.c (.i .i64 1)),
   .mv 216 (.t 248)])))))))
  (.q (.o [.mkm 249,
   .mv 29 (.t 249)])
  (.q (.q (.o [.mv 250 (.t 12),
   .ln 251 (.t 250),
   .mv 252 (.c (.i .i64 0))])
  (.b 9 (.l [0,1,4,12,29,250,251,252] (.q (.o [.bn 253 .lss (.t 252) (.t 251)])
  (.q (.i (.t 253) (.k)
  (.x 9))
  (.q (.b 10 (.q (.o [.ia 254 (.t 250) (.t 252) 1,
   .ld 255 (.t 254) none,
   .mv 31 (.t 255)])
  (.q (.o [.mv 256 (.t 0),
   .mv 257 (.t 31),
   .ia 258 (.t 256) (.t 257) 5,
   .ld 259 (.t 258) (some 5),
   .lal 32 (.ag [(.s []),(.i .i64 0),(.i .i64 0),(.i .i64 0),(.s [])]),
   .st (.t 32) (.t 259) 5])
  (.q (.o [.fa 260 (.t 32) 1,
   .ld 261 (.t 260) none,
   .bn 262 .eql (.t 261) (.c (.i .i64 5)),
   .mv 263 (.t 262),
   .gd 263 false (.fa 264 (.t 32) 1),
   .gd 263 false (.ld 265 (.t 264) none),
   .gd 263 false (.bn 266 .eql (.t 265) (.c (.i .i64 39))),
   .pk 267 (.t 263) (.c (.b true)) (.t 266)])
  (.i (.t 267) (.q (.p [⟨.fa 268 (.t 32) 0,[],false⟩,
   ⟨.ld 269 (.t 268) none,[],true⟩,
   ⟨.cl (some 270) 104 [(.t 269)],[],true⟩,
   ⟨.fa 271 (.t 32) 1,[],false⟩,
   ⟨.ld 272 (.t 271) none,[2],true⟩,
   ⟨.bd 273 [(.s []),(.i .i64 0)] [(0,1,(.t 270)),(1,1,(.t 272))],[],false⟩,
   ⟨.lal 33 (.ag [(.s []),(.i .i64 0)]),[1,4],false⟩,
   ⟨.st (.t 33) (.t 273) 2,[],false⟩])
  (.q (.q (.o [.mv 274 (.t 29),
   .ld 275 (.t 33) (some 2),
   .lk 276 (.t 274) (.t 275) (.b false) [.s,(.i .i64)] false])
  (.i (.t 276) (.q (.o [.bd 277 [(.s []),.ns] [],
   .mv 278 (.t 31),
   .st (.t 4) (.t 277) 2,
   .mv 5 (.c (.i .i64 23)),
   .mv 6 (.t 278)])
  (.r))
  (.k)))
  (.o [.mv 279 (.t 29),
   .ld 280 (.t 33) (some 2),
   .mu (.t 279) (.t 280) (.c (.b true)) [.s,(.i .i64)]])))
  (.k))))))
  (.o [.bn 281 .add (.t 252) (.c (.i .i64 1)),
   .mv 252 (.t 281)])))))))
  (.q (.q (.o [.mv 282 (.t 12),
   .ln 283 (.t 282),
   .mv 284 (.c (.i .i64 0))])
  (.b 11 (.l [0,1,4,12,29,282,283,284] (.q (.o [.bn 285 .lss (.t 284) (.t 283)])
  (.q (.i (.t 285) (.k)
  (.x 11))
  (.q (.b 12 (.q (.o [.ia 286 (.t 282) (.t 284) 1,
   .ld 287 (.t 286) none,
   .mv 35 (.t 287)])
  (.q (.o [.mv 288 (.t 0),
   .mv 289 (.t 35),
   .ia 290 (.t 288) (.t 289) 5,
   .ld 291 (.t 290) (some 5),
   .lal 36 (.ag [(.s []),(.i .i64 0),(.i .i64 0),(.i .i64 0),(.s [])]),
   .st (.t 36) (.t 291) 5])
  (.q (.o [.mv 292 (.t 29),
   .fa 293 (.t 36) 0,
   .ld 294 (.t 293) none,
   .cl (some 295) 104 [(.t 294)],
   .bd 296 [(.s []),(.i .i64 0)] [(0,1,(.t 295)),(1,1,(.c (.i .i64 5)))],
   .lk 297 (.t 292) (.t 296) (.b false) [.s,(.i .i64)] false,
   .mv 298 (.t 297),
   .gd 298 true (.fa 299 (.t 36) 1),
   .gd 298 true (.ld 300 (.t 299) none),
   .gd 298 true (.bn 301 .neq (.t 300) (.c (.i .i64 5))),
   .pk 302 (.t 298) (.t 301) (.c (.b false)),
   .mv 303 (.t 302),
   .gd 303 true (.fa 304 (.t 36) 1),
   .gd 303 true (.ld 305 (.t 304) none),
   .gd 303 true (.bn 306 .neq (.t 305) (.c (.i .i64 47))),
   .pk 307 (.t 303) (.t 306) (.c (.b false))])
  (.i (.t 307) (.q (.o [.bd 308 [(.s []),.ns] [],
   .mv 309 (.t 35),
   .st (.t 4) (.t 308) 2,
   .mv 5 (.c (.i .i64 23)),
   .mv 6 (.t 309)])
  (.r))
  (.k))))))
  (.o [.bn 310 .add (.t 284) (.c (.i .i64 1)),
   .mv 284 (.t 310)])))))))
  (.q (.q (.o [.mv 311 (.t 12),
   .ln 312 (.t 311),
   .mv 313 (.c (.i .i64 0))])
  (.b 13 (.l [0,1,4,12,29,311,312,313] (.q (.o [.bn 314 .lss (.t 313) (.t 312)])
  (.q (.i (.t 314) (.k)
  (.x 13))
  (.q (.b 14 (.q (.o [.ia 315 (.t 311) (.t 313) 1,
   .ld 316 (.t 315) none,
   .mv 38 (.t 316)])
  (.q (.o [.mv 317 (.t 29),
   .rsm 318 (.t 317)])
  (.b 15 (.l [0,1,4,12,29,38,311,312,313,318] (.q (.o [.nxm 319 (.t 318),
   .ex 320 (.t 319) 0])
  (.q (.i (.t 320) (.k)
  (.x 15))
  (.b 16 (.q (.o [.en 321 (.t 318),
   .ex 322 (.t 321) 0,
   .lal 39 (.ag [(.s []),(.i .i64 0)]),
   .st (.t 39) (.t 322) 2])
  (.q (.p [⟨.fa 323 (.t 39) 1,[],false⟩,
   ⟨.ld 324 (.t 323) none,[],false⟩,
   ⟨.bn 325 .eql (.t 324) (.c (.i .i64 39)),[],false⟩,
   ⟨.mv 326 (.t 325),[],false⟩,
   ⟨.gd 326 true (.mv 327 (.t 0)),[],false⟩,
   ⟨.gd 326 true (.mv 328 (.t 38)),[],false⟩,
   ⟨.gd 326 true (.ia 329 (.t 327) (.t 328) 5),[],false⟩,
   ⟨.gd 326 true (.fa 330 (.t 329) 0),[],false⟩,
   ⟨.gd 326 true (.ld 331 (.t 330) none),[],false⟩,
   ⟨.gd 326 true (.fa 332 (.t 39) 0),[],false⟩,
   ⟨.gd 326 true (.ld 333 (.t 332) none),[],false⟩,
   ⟨.gd 326 true (.cl (some 334) 189 [(.t 331),(.t 333)]),[],false⟩,
   ⟨.pk 335 (.t 326) (.t 334) (.c (.b false)),[],false⟩])
  (.i (.t 335) (.q (.o [.bd 336 [(.s []),.ns] [],
   .mv 337 (.t 38),
   .st (.t 4) (.t 336) 2,
   .mv 5 (.c (.i .i64 25)),
   .mv 6 (.t 337)])
  (.r))
  (.k))))))))))))
  (.o [.bn 338 .add (.t 313) (.c (.i .i64 1)),
   .mv 313 (.t 338)])))))))
  (.q (.o [.mv 339 (.t 1),
   .bd 340 [(.s []),.ns] [(0,1,(.t 339))],
   .al 40 2 [(.ag [(.s []),.ns])],
   .st (.t 40) (.t 340) 2])
  (.q (.o [.mkm 341,
   .mv 41 (.t 341)])
  (.q (.o [.mkm 342,
   .mv 42 (.t 342)])
  (.q (.q (.o [.mv 343 (.t 12),
   .ln 344 (.t 343),
   .mv 345 (.c (.i .i64 0))])
  (.b 17 (.l [0,4,40,41,42,343,344,345] (.q (.o [.bn 346 .lss (.t 345) (.t 344)])
  (.q (.i (.t 346) (.k)
  (.x 17))
  (.q (.b 18 (.q (.o [.ia 347 (.t 343) (.t 345) 1,
   .ld 348 (.t 347) none,
   .mv 44 (.t 348)])
  (.q (.o [.mv 349 (.t 0),
   .mv 350 (.t 44),
   .ia 351 (.t 349) (.t 350) 5,
   .ld 352 (.t 351) (some 5),
   .lal 45 (.ag [(.s []),(.i .i64 0),(.i .i64 0),(.i .i64 0),(.s [])]),
   .st (.t 45) (.t 352) 5])
  (.q (.o [.fa 353 (.t 45) 0,
   .ld 354 (.t 353) none,
   .cl (some 355) 104 [(.t 354)],
   .mv 46 (.t 355)])
  (.q (.q (.o [.mv 357 (.t 41),
   .mv 358 (.t 46),
   .lk 359 (.t 357) (.t 358) (.s []) [.s] true,
   .mv 356 (.t 359),
   .ex 360 (.t 356) 0,
   .ex 361 (.t 356) 1,
   .mv 47 (.t 360),
   .mv 48 (.t 361)])
  (.q (.o [.mv 362 (.t 48),
   .un 363 .not (.t 362)])
  (.i (.t 363) (.o [.mv 364 (.t 41),
   .mv 365 (.t 46),
   .fa 366 (.t 45) 0,
   .ld 367 (.t 366) none,
   .mu (.t 364) (.t 365) (.t 367) [.s]])
  (.k))))
  (.q (.o [.mv 368 (.t 46),
   .fa 369 (.t 45) 1,
   .ld 370 (.t 369) none,
   .bd 371 [(.s []),(.i .i64 0)] [(0,1,(.t 368)),(1,1,(.t 370))],
   .lal 49 (.ag [(.s []),(.i .i64 0)]),
   .st (.t 49) (.t 371) 2])
  (.q (.o [.mv 373 (.t 42),
   .ld 374 (.t 49) (some 2),
   .lk 375 (.t 373) (.t 374) (.i .i64 0) [.s,(.i .i64)] true,
   .mv 372 (.t 375),
   .ex 376 (.t 372) 0,
   .ex 377 (.t 372) 1,
   .mv 50 (.t 376),
   .mv 51 (.t 377)])
  (.q (.q (.o [.mv 378 (.t 51),
   .un 379 .not (.t 378)])
  (.i (.t 379) (.q (.o [.fa 380 (.t 40) 1,
   .ld 381 (.t 380) none,
   .ln 382 (.t 381),
   .mv 50 (.t 382)])
  (.q (.o [.mv 383 (.t 42),
   .ld 384 (.t 49) (some 2),
   .mv 385 (.t 50),
   .mu (.t 383) (.t 384) (.t 385) [.s,(.i .i64)]])
  (.o [.fa 386 (.t 40) 1,
   .ld 387 (.t 386) none,
   .mv 388 (.t 41),
   .mv 389 (.t 46),
   .lk 390 (.t 388) (.t 389) (.s []) [.s] false,
   .fa 391 (.t 45) 1,
   .ld 392 (.t 391) none,
   .fa 393 (.t 45) 3,
   .ld 394 (.t 393) none,
   .bd 395 [(.s []),(.i .i64 0),(.i .i64 0),.ns] [(0,1,(.t 390)),(1,1,(.t 392)),(2,1,(.t 394))],
   .lbs 396 (.ag [(.s []),(.i .i64 0),(.i .i64 0),.ns]) 4 1 [(0,(.t 395))],
   .ap 397 (.t 387) (.t 396) 4 56,
   .fa 398 (.t 40) 1,
   .st (.t 398) (.t 397) 1])))
  (.k)))
  (.p [⟨.fa 399 (.t 40) 1,[],false⟩,
   ⟨.ld 400 (.t 399) none,[],true⟩,
   ⟨.mv 401 (.t 50),[],false⟩,
   ⟨.fa 402 (.t 40) 1,[],false⟩,
   ⟨.ld 403 (.t 402) none,[],true⟩,
   ⟨.mv 404 (.t 50),[],false⟩,
   ⟨.ia 405 (.t 403) (.t 404) 4,[],true⟩,
   ⟨.fa 406 (.t 405) 3,[],false⟩,
   ⟨.ld 407 (.t 406) none,[],true⟩,
   ⟨.fa 408 (.t 45) 4,[],false⟩,
   ⟨.ld 409 (.t 408) none,[],false⟩,
   ⟨.lbs 410 (.s []) 1 1 [(0,(.t 409))],[1,4,6,8],false⟩,
   ⟨.ap 411 (.t 407) (.t 410) 1 16,[1],false⟩,
   ⟨.ia 412 (.t 400) (.t 401) 4,[],false⟩,
   ⟨.fa 413 (.t 412) 3,[],false⟩,
   ⟨.st (.t 413) (.t 411) 1,[],false⟩])))))))))
  (.o [.bn 414 .add (.t 345) (.c (.i .i64 1)),
   .mv 345 (.t 414)])))))))
  (.q (.q (.o [.fa 415 (.t 40) 1,
   .ld 416 (.t 415) none,
   .ln 417 (.t 416),
   .mv 418 (.c (.i .i64 0))])
  (.b 19 (.l [4,40,416,417,418] (.q (.o [.bn 419 .lss (.t 418) (.t 417)])
  (.q (.i (.t 419) (.k)
  (.x 19))
  (.q (.b 20 (.q (.o [.ia 420 (.t 416) (.t 418) 4,
   .ld 421 (.t 420) (some 4),
   .al 53 4 [(.ag [(.s []),(.i .i64 0),(.i .i64 0),.ns])],
   .st (.t 53) (.t 421) 4])
  (.o [.fa 422 (.t 53) 3,
   .ld 423 (.t 422) none,
   .mi 424 81 (.t 423),
   .mf 425 190 [(.t 53)],
   .cl (some 426) 138 [(.t 424),(.t 425)]])))
  (.o [.bn 427 .add (.t 418) (.c (.i .i64 1)),
   .mv 418 (.t 427)])))))))
  (.q (.o [.fa 428 (.t 40) 1,
   .ld 429 (.t 428) none,
   .mi 430 26 (.t 429),
   .mf 431 192 [(.t 40)],
   .cl (some 432) 138 [(.t 430),(.t 431)]])
  (.q (.o [.ld 433 (.t 40) (some 2),
   .st (.t 4) (.t 433) 2,
   .mv 5 (.c (.i .i64 0)),
   .mv 6 (.c (.i .i64 0))])
  (.r)))))))))))))))))))))))))⟩
abbrev Yc:Nat:=110
theorem Jdo:Qi Go.Proofs.Tryz.prog Jk 110=true:=by kernel_rfl
def XB:Fn:=⟨2,[(.t 4)],
  .q (.o [.lbx 2 (.t 0),
   .lbx 3 (.t 1),
   .mv 4 (.c (.b false))])
  (.q (.q (.o [.fa 9 (.t 2) 0,
   .ld 10 (.t 9) none,
   .fa 11 (.t 3) 0,
   .ld 12 (.t 11) none,
   .bn 13 .neq (.t 10) (.t 12),
   .mv 14 (.t 13),
   .gd 14 false (.fa 15 (.t 2) 1),
   .gd 14 false (.ld 16 (.t 15) none),
   .gd 14 false (.ln 17 (.t 16)),
   .gd 14 false (.fa 18 (.t 3) 1),
   .gd 14 false (.ld 19 (.t 18) none),
   .gd 14 false (.ln 20 (.t 19)),
   .gd 14 false (.bn 21 .neq (.t 17) (.t 20)),
   .pk 22 (.t 14) (.c (.b true)) (.t 21)])
  (.i (.t 22) (.q (.o [.mv 4 (.c (.b false))])
  (.r))
  (.k)))
  (.q (.q (.o [.fa 23 (.t 2) 1,
   .ld 24 (.t 23) none,
   .ln 25 (.t 24),
   .mv 26 (.c (.i .i64 0))])
  (.b 0 (.l [3,24,25,26] (.q (.o [.bn 27 .lss (.t 26) (.t 25)])
  (.q (.i (.t 27) (.k)
  (.x 0))
  (.q (.b 1 (.q (.o [.mv 28 (.t 26),
   .ia 29 (.t 24) (.t 26) 4,
   .ld 30 (.t 29) (some 4),
   .lal 6 (.ag [(.s []),(.i .i64 0),(.i .i64 0),.ns]),
   .mv 5 (.t 28),
   .st (.t 6) (.t 30) 4])
  (.q (.o [.fa 31 (.t 3) 1,
   .ld 32 (.t 31) none,
   .mv 33 (.t 5),
   .ia 34 (.t 32) (.t 33) 4,
   .ld 35 (.t 34) (some 4),
   .lal 7 (.ag [(.s []),(.i .i64 0),(.i .i64 0),.ns]),
   .st (.t 7) (.t 35) 4])
  (.q (.q (.o [.fa 36 (.t 6) 0,
   .ld 37 (.t 36) none,
   .fa 38 (.t 7) 0,
   .ld 39 (.t 38) none,
   .bn 40 .neq (.t 37) (.t 39),
   .mv 41 (.t 40),
   .gd 41 false (.fa 42 (.t 6) 1),
   .gd 41 false (.ld 43 (.t 42) none),
   .gd 41 false (.fa 44 (.t 7) 1),
   .gd 41 false (.ld 45 (.t 44) none),
   .gd 41 false (.bn 46 .neq (.t 43) (.t 45)),
   .pk 47 (.t 41) (.c (.b true)) (.t 46),
   .mv 48 (.t 47),
   .gd 48 false (.fa 49 (.t 6) 2),
   .gd 48 false (.ld 50 (.t 49) none),
   .gd 48 false (.fa 51 (.t 7) 2),
   .gd 48 false (.ld 52 (.t 51) none),
   .gd 48 false (.bn 53 .neq (.t 50) (.t 52)),
   .pk 54 (.t 48) (.c (.b true)) (.t 53),
   .mv 55 (.t 54),
   .gd 55 false (.fa 56 (.t 6) 3),
   .gd 55 false (.ld 57 (.t 56) none),
   .gd 55 false (.ln 58 (.t 57)),
   .gd 55 false (.fa 59 (.t 7) 3),
   .gd 55 false (.ld 60 (.t 59) none),
   .gd 55 false (.ln 61 (.t 60)),
   .gd 55 false (.bn 62 .neq (.t 58) (.t 61)),
   .pk 63 (.t 55) (.c (.b true)) (.t 62)])
  (.i (.t 63) (.q (.o [.mv 4 (.c (.b false))])
  (.r))
  (.k)))
  (.q (.o [.fa 64 (.t 6) 3,
   .ld 65 (.t 64) none,
   .ln 66 (.t 65),
   .mv 67 (.c (.i .i64 0))])
  (.b 2 (.l [3,6,7,24,25,26,66,67] (.q (.o [.bn 68 .lss (.t 67) (.t 66)])
  (.q (.i (.t 68) (.k)
  (.x 2))
  (.q (.b 3 (.q (.o [.mv 69 (.t 67),
   .mv 8 (.t 69)])
  (.q (.p [⟨.fa 70 (.t 6) 3,[],false⟩,
   ⟨.ld 71 (.t 70) none,[],false⟩,
   ⟨.mv 72 (.t 8),[],false⟩,
   ⟨.ia 73 (.t 71) (.t 72) 1,[],false⟩,
   ⟨.ld 74 (.t 73) none,[],false⟩,
   ⟨.fa 75 (.t 7) 3,[],false⟩,
   ⟨.ld 76 (.t 75) none,[],false⟩,
   ⟨.mv 77 (.t 8),[],false⟩,
   ⟨.ia 78 (.t 76) (.t 77) 1,[],false⟩,
   ⟨.ld 79 (.t 78) none,[],false⟩,
   ⟨.bn 80 .neq (.t 74) (.t 79),[],false⟩])
  (.i (.t 80) (.q (.o [.mv 4 (.c (.b false))])
  (.r))
  (.k)))))
  (.o [.bn 81 .add (.t 67) (.c (.i .i64 1)),
   .mv 67 (.t 81)])))))))))))
  (.o [.bn 82 .add (.t 26) (.c (.i .i64 1)),
   .mv 26 (.t 82)])))))))
  (.q (.o [.mv 4 (.c (.b true))])
  (.r))))⟩
abbrev YX:Nat:=162
theorem JeF:Qi Go.Proofs.Tryz.prog XB 162=true:=by kernel_rfl
def QN:Fn:=⟨1,[(.t 2)],
  .q (.o [.lbx 1 (.t 0),
   .mv 2 (.c .ns)])
  (.q (.q (.o [.fa 6 (.t 1) 1,
   .ld 7 (.t 6) none,
   .ln 8 (.t 7),
   .bn 9 .gtr (.t 8) (.c (.i .i64 500))])
  (.i (.t 9) (.q (.o [.mv 2 (.c .ns)])
  (.r))
  (.k)))
  (.q (.o [.mv 3 (.c .ns)])
  (.q (.q (.o [.fa 10 (.t 1) 1,
   .ld 11 (.t 10) none,
   .ln 12 (.t 11),
   .mv 13 (.c (.i .i64 0))])
  (.b 0 (.l [3,11,12,13] (.q (.o [.bn 14 .lss (.t 13) (.t 12)])
  (.q (.i (.t 14) (.k)
  (.x 0))
  (.q (.b 1 (.q (.o [.ia 15 (.t 11) (.t 13) 4,
   .ld 16 (.t 15) (some 4),
   .lal 5 (.ag [(.s []),(.i .i64 0),(.i .i64 0),.ns]),
   .st (.t 5) (.t 16) 4])
  (.q (.q (.o [.mv 17 (.t 3),
   .ln 18 (.t 17),
   .fa 19 (.t 5) 3,
   .ld 20 (.t 19) none,
   .ln 21 (.t 20),
   .bn 22 .add (.t 18) (.t 21),
   .bn 23 .gtr (.t 22) (.c (.i .i64 500))])
  (.i (.t 23) (.q (.o [.mv 2 (.c .ns)])
  (.r))
  (.k)))
  (.o [.mv 24 (.t 3),
   .ld 25 (.t 5) (some 4),
   .cl (some 26) 217 [(.t 25)],
   .ap 27 (.t 24) (.t 26) 5 56,
   .mv 3 (.t 27)]))))
  (.o [.bn 28 .add (.t 13) (.c (.i .i64 1)),
   .mv 13 (.t 28)])))))))
  (.q (.o [.mv 29 (.t 3),
   .mv 2 (.t 29)])
  (.r)))))⟩
abbrev QV:Nat:=172
theorem JcC:Qi Go.Proofs.Tryz.prog QN 172=true:=by kernel_rfl
def Q5:Fn:=⟨3,[(.t 5)],
  .q (.o [.mv 5 (.c (.b false))])
  (.q (.p [⟨.fa 6 (.t 2) 1,[],false⟩,
   ⟨.ld 7 (.t 6) none,[],false⟩,
   ⟨.fa 8 (.t 2) 3,[],false⟩,
   ⟨.ld 9 (.t 8) none,[],false⟩,
   ⟨.mv 10 (.t 0),[],false⟩,
   ⟨.ia 11 (.t 9) (.t 10) 1,[],false⟩,
   ⟨.ld 12 (.t 11) none,[],false⟩,
   ⟨.fa 13 (.t 2) 3,[],false⟩,
   ⟨.ld 14 (.t 13) none,[],false⟩,
   ⟨.mv 15 (.t 1),[],false⟩,
   ⟨.ia 16 (.t 14) (.t 15) 1,[],false⟩,
   ⟨.ld 17 (.t 16) none,[],false⟩,
   ⟨.cl (some 18) 191 [(.t 7),(.t 12),(.t 17)],[],false⟩,
   ⟨.bn 19 .lss (.t 18) (.c (.i .i64 0)),[],false⟩,
   ⟨.mv 5 (.t 19),[],false⟩])
  (.r))⟩
abbrev Y3:Nat:=190
theorem Jb9:Qi Go.Proofs.Tryz.prog Q5 190=true:=by kernel_rfl
def Q4:Fn:=⟨3,[(.t 5)],
  .q (.o [.mv 5 (.c (.b false))])
  (.q (.p [⟨.fa 7 (.t 2) 1,[],false⟩,
   ⟨.ld 8 (.t 7) none,[],false⟩,
   ⟨.mv 9 (.t 0),[],false⟩,
   ⟨.ia 10 (.t 8) (.t 9) 4,[],false⟩,
   ⟨.fa 11 (.t 10) 0,[],false⟩,
   ⟨.ld 12 (.t 11) none,[],false⟩,
   ⟨.fa 13 (.t 2) 1,[],false⟩,
   ⟨.ld 14 (.t 13) none,[],false⟩,
   ⟨.mv 15 (.t 1),[],false⟩,
   ⟨.ia 16 (.t 14) (.t 15) 4,[],false⟩,
   ⟨.fa 17 (.t 16) 0,[],false⟩,
   ⟨.ld 18 (.t 17) none,[],false⟩,
   ⟨.cl (some 19) 127 [(.t 12),(.t 18)],[],false⟩,
   ⟨.mv 6 (.t 19),[],false⟩])
  (.q (.p [⟨.mv 20 (.t 6),[],false⟩,
   ⟨.bn 21 .lss (.t 20) (.c (.i .i64 0)),[],false⟩,
   ⟨.mv 22 (.t 21),[],false⟩,
   ⟨.gd 22 false (.mv 23 (.t 6)),[],false⟩,
   ⟨.gd 22 false (.bn 24 .eql (.t 23) (.c (.i .i64 0))),[],false⟩,
   ⟨.gd 22 false (.mv 25 (.t 24)),[],false⟩,
   ⟨.gd 25 true (.fa 26 (.t 2) 1),[],false⟩,
   ⟨.gd 25 true (.ld 27 (.t 26) none),[],false⟩,
   ⟨.gd 25 true (.mv 28 (.t 0)),[],false⟩,
   ⟨.gd 25 true (.ia 29 (.t 27) (.t 28) 4),[],false⟩,
   ⟨.gd 25 true (.fa 30 (.t 29) 1),[],false⟩,
   ⟨.gd 25 true (.ld 31 (.t 30) none),[],false⟩,
   ⟨.gd 25 true (.fa 32 (.t 2) 1),[],false⟩,
   ⟨.gd 25 true (.ld 33 (.t 32) none),[],false⟩,
   ⟨.gd 25 true (.mv 34 (.t 1)),[],false⟩,
   ⟨.gd 25 true (.ia 35 (.t 33) (.t 34) 4),[],false⟩,
   ⟨.gd 25 true (.fa 36 (.t 35) 1),[],false⟩,
   ⟨.gd 25 true (.ld 37 (.t 36) none),[],false⟩,
   ⟨.gd 25 true (.bn 38 .lss (.t 31) (.t 37)),[],false⟩,
   ⟨.gd 22 false (.pk 39 (.t 25) (.t 38) (.c (.b false))),[],false⟩,
   ⟨.pk 40 (.t 22) (.c (.b true)) (.t 39),[],false⟩,
   ⟨.mv 5 (.t 40),[],false⟩])
  (.r)))⟩
abbrev YS:Nat:=192
theorem Jcd:Qi Go.Proofs.Tryz.prog Q4 192=true:=by kernel_rfl
def Q0:Fn:=⟨1,[(.t 2)],
  .q (.o [.lbx 1 (.t 0),
   .mv 2 (.c .ns)])
  (.q (.o [.mv 3 (.c .ns)])
  (.q (.q (.o [.fa 6 (.t 1) 3,
   .ld 7 (.t 6) none,
   .ln 8 (.t 7),
   .mv 9 (.c (.i .i64 0))])
  (.b 0 (.l [1,3,7,8,9] (.q (.o [.bn 10 .lss (.t 9) (.t 8)])
  (.q (.i (.t 10) (.k)
  (.x 0))
  (.q (.b 1 (.q (.o [.ia 11 (.t 7) (.t 9) 1,
   .ld 12 (.t 11) none,
   .mv 5 (.t 12)])
  (.o [.mv 13 (.t 3),
   .fa 14 (.t 1) 0,
   .ld 15 (.t 14) none,
   .fa 16 (.t 1) 1,
   .ld 17 (.t 16) none,
   .fa 18 (.t 1) 2,
   .ld 19 (.t 18) none,
   .mv 20 (.t 5),
   .bd 21 [(.s []),(.i .i64 0),(.i .i64 0),(.i .i64 0),(.s [])] [(0,1,(.t 15)),(1,1,(.t 17)),(2,1,(.c (.i .i64 1))),(3,1,(.t 19)),(4,1,(.t 20))],
   .lbs 22 (.ag [(.s []),(.i .i64 0),(.i .i64 0),(.i .i64 0),(.s [])]) 5 1 [(0,(.t 21))],
   .ap 23 (.t 13) (.t 22) 5 56,
   .mv 3 (.t 23)])))
  (.o [.bn 24 .add (.t 9) (.c (.i .i64 1)),
   .mv 9 (.t 24)])))))))
  (.q (.o [.mv 25 (.t 3),
   .mv 2 (.t 25)])
  (.r))))⟩
abbrev WS:Nat:=217
theorem Jcu:Qi Go.Proofs.Tryz.prog Q0 217=true:=by kernel_rfl
def Jam (l:List Qa):Nat:=(l.map fun s=>s.d.length).sum
theorem Jaz {l:List Qa} {i:Nat} (h:i < l.length):Jam (l.take (i+1))=Jam (l.take i)+l[i].d.length:=by
 unfold Jam;rw [List.take_succ_eq_append_getElem h,List.map_append,List.sum_append];simp
theorem Ja6 (l:List Qa) (i:Nat):Jam (l.take i)≤Jam l:=by
 unfold Jam;conv=>rhs;rw [←List.take_append_drop i l,List.map_append,List.sum_append]
 omega
structure SzZ (z:Zn):Prop where
 a:z.a.length≤1048576
 s:z.s.length≤1048576
 c:Jam z.s≤1048576
 o: ∀ s,s∈z.s→s.o.length≤1048576
 d: ∀ s,s∈z.s→ ∀ d,d∈s.d→d.length≤1048576
theorem Jah {l:List Qa} {s:Qa} (h:s∈l):s.d.length≤Jam l:=by
 induction l with
 | nil=>cases h
 | cons t l ih=>
  unfold Jam at*;simp only [List.map_cons,List.sum_cons];rcases List.mem_cons.1 h with rfl | h
  ·omega
  ·have:=ih h;omega
section
variable {C:Tab}
def Jgr (C:Tab) (f:Nat):Prop:= ∀ (a:List UInt8) (zs:AV) (sets:List Qa) (ds:List AV) (H:AH),ZS H zs sets ds→sets.length≤1048576→Jam sets≤1048576→C f [.ag [.s a,zs]] H=some (.i .i64 (Jam sets:Nat),H)
def Je1 (C:Tab) (f:Nat):Prop:= ∀ (s:Qa) (d:AV) (H:AH),Sl H 1 d (s.d.map AV.s)→s.d.length≤1048576→ ∃ v H',C f [sV s d] H=some (v,H')∧Ext H H'∧Mx H' eR v (JbC s)∧ ∀ i,i∈idA v→H.n≤i
def JhX (C:Tab) (f:Nat):Prop:= ∀ (a b:AV) (xs ys:List Rr) (H:AH),Mx H eR a xs→Sx H eR b ys→Dj b a→xs.length+ys.length≤1099511627→ ∃ v H',C f [a,b] H=some (v,H')∧Mx H' eR v (xs++ys)∧Kp (idA a) H H'∧ ∀ i,i∈idA v→i∈idA a∨H.n≤i
theorem Jqw {a:List UInt8} {zs:AV} {sets:List Qa} {ds:List AV} {H:AH} (h:ZS H zs sets ds) (hl:sets.length≤1048576) (hc:Jam sets≤1048576):Jt C Xr [.ag [.s a,zs]] H fun v H'=>v= .i .i64 (Jam sets:Nat)∧QA H H':=by
 unfold Jt Xr;have hk:=JA H;obtain ⟨l1,l2⟩:=h.row.len;rw [QK h.len] at l1;have zo:=h.row.out;simp -implicitDefEqProofs only [bU,bT,bV]
 refine Jl (fun m e M=> ∃ (i:Nat) (g:Nat),i≤sets.length∧m=sets.length-i∧look e 1= .la 1 0 0 0∧look e 3= .i .i64 (Jam (sets.take i):Nat)∧look e 4= .i .i64 i∧M=⟨[⟨1,0,0,[.ag [.s a,zs]]⟩],g,H⟩) ?_ (n:=sets.length)
  ⟨0,_,by omega,by omega,rfl,rfl,rfl,rfl⟩
 rintro m e M ⟨i,g,hi,rfl,q1,q3,q4,rfl⟩;by_cases h1:(i:Int) < sets.length
 ·have hil:i < sets.length:=by omega
  have hid:i < ds.length:=by rw [h.len];exact hil
  obtain ⟨a1,a2,a3,a4,-,-,-,a8,-,-⟩:=h.at' hil hid;obtain ⟨d1,d2⟩:=(h.dat i hil hid).len;rw [List.length_map] at d1;have e1:=Jaz hil;have e2:=Ja6 sets (i+1);have w3:IntKind.i64.wrap ((Jam (sets.take i):Int)+(sets[i].d.length:Int))=((Jam (sets.take (i+1)):Nat):Int):=by rw [w64 (by omega) (by omega)];omega
  have w4:IntKind.i64.wrap ((i:Int)+1)=((i+1:Nat):Int):=by rw [w64 (by omega) (by omega)];rfl
  have bd:sets.length- (i+1) < sets.length-i:=by omega
  simp -implicitDefEqProofs only [bU,Jc,Ja,bT,bV,Ja,q1,q3,q4,l1,l2,h1,Jj,a1,a2,a3,a4,a8,d1,d2,w3,w4];exact ⟨_,bd,i+1,_,hil,rfl,rfl,rfl,rfl⟩
 ·have hil:i=sets.length:=by omega
  subst hil;rw [List.take_length] at q3;simp -implicitDefEqProofs only [bU,Jc,reduceCtorEq,Ja,bT,bV,Ja,q1,q3,q4,l1,l2,h1,Jr,rsC,rsV,Js];exact hk
theorem JoT {a b:AV} {xs ys:List Rr} {H:AH} (ha:Mx H eR a xs) (hb:Sx H eR b ys) (hd:Dj b a) (hn:xs.length+ys.length≤1099511627):
  Jt C XT [a,b] H fun v H'=>Mx H' eR v (xs++ys)∧Kp (idA a) H H'∧ ∀ i,i∈idA v→i∈idA a∨H.n≤i:=by
 unfold Jt XT;obtain ⟨l1,l2⟩:=hb.len;have ob:=hb.out;simp -implicitDefEqProofs only [bU,Ja]
 refine Jl (fun n e M=> ∃ (i:Nat) (o:AV) (H':AH) (L:List Lv) (g:Nat),i≤ys.length∧n=ys.length-i∧look e 0=o∧look e 1=b∧look e 5= .i .i64 i∧M=⟨L,g,H'⟩∧Mx H' eR o (xs++ys.take i)∧Kp (idA a) H H'∧(∀ j,j∈idA o→j∈idA a∨H.n≤j)) ?_ (n:=ys.length)
  ⟨0,a,H,_,_,by omega,by omega,rfl,rfl,rfl,rfl,by simpa using ha,.refl _ _,fun j hj=> .inl hj⟩
 rintro n e M ⟨i,o,H',L,g,hi,rfl,q0,q1,q5,rfl,hm,hk,hid⟩;have hb':Sx H' eR b ys:=hk.sl hb hd;have ho:=(Mn.sl hm).out;by_cases hlt:(i:Int) < ys.length
 ·have hil:i < ys.length:=by omega
  obtain ⟨b1,b2,b3,b4⟩:=Sx.at' hb' hil;have w9:IntKind.i64.wrap ((i:Int)+1)=((i+1:Nat):Int):=by rw [w64 (by omega) (by omega)];rfl
  obtain ⟨p1,o',H2,p2,p3,p4,p5,p6,p7,-,-⟩:=Mn.ap (by':=56) hm (Qk (t:=17) (g:=g) (x:=eR.v ys[i]) (L:=ZK (JJ [0,1,5] L) 17) (H:=H')) (by simp;omega)
  rw [show eR.z=5 from rfl,JcE] at p1 p2 p3
  rw [JcE] at b4;rw [show eR.z=5 from rfl] at b1 b3 b4
  simp -implicitDefEqProofs only [bU,Jc,reduceCtorEq,Ja,bT,bV,Ja,q0,q1,q5,l1,l2,hlt,b1,b2,b3,b4,Jj,JE,JQ,List.replicate];simp -implicitDefEqProofs only [bU,p1,p2,p3,w9];refine ⟨ys.length- (i+1),by omega,i+1,o',H2,_,_,by omega,rfl,rfl,rfl,rfl,?_,⟨Nat.le_trans hk.n p5,fun j hj hja=>(p6 j (Nat.lt_of_lt_of_le hj hk.n) fun hh=>(hid j hh).elim hja fun h2=>by omega).trans (hk.at' j hj hja)⟩,fun j hj=> ?_⟩
  ·have e:ys.take (i+1)=ys.take i++[ys[i]]:=by rw [←List.take_append_getElem hil]
   rw [e,←List.append_assoc];show Mn H2 eR.z o' _
   rw [List.map_append];exact p4
  ·rcases p7 j hj with h | h
   ·exact hid j h
   ·have:=hk.n;exact .inr (by omega)
 ·have hie:i=ys.length:=by omega
  subst hie;rw [List.take_length] at hm;simp -implicitDefEqProofs only [bU,Jc,reduceCtorEq,bT,q0,q1,q5,l1,l2,hlt,ho,Jr,rsC,rsV,Js];exact ⟨hm,hk,hid⟩
theorem JpD {s:Qa} {d:AV} {H:AH} (h:Sl H 1 d (s.d.map AV.s)) (hl:s.d.length≤1048576):Jt C Qu [sV s d] H fun v H'=>Ext H H'∧Mx H' eR v (JbC s)∧ ∀ i,i∈idA v→H.n≤i:=by
 unfold Jt Qu;obtain ⟨l1,l2⟩:=h.len;rw [List.length_map] at l1;have dO:=h.out;have dc:=h.one;have hm0:Mx (H.new (.arr true 0 5 [])) eR (.sl H.n 0 0) []:= .own (by simp) QD
 simp -implicitDefEqProofs only [bU,Jc,reduceCtorEq,bT,bV,sV,JE,JQ,List.replicate]
 refine Jl (fun m e M=> ∃ (i:Nat) (o:AV) (H':AH) (L0:List Lv) (g:Nat),i≤s.d.length∧m=s.d.length-i∧look e 1= .la 1 0 0 0∧look e 3=o∧look e 4= .i .i64 i∧M=⟨L0,g,H'⟩∧JJ [1,3,4] L0=[⟨1,0,0,[.ag [.s s.o,.i .i64 s.t,.i .i64 s.ttl,d]]⟩]∧Ext H H'∧
   Mx H' eR o ((s.d.take i).map fun x=>(⟨s.o,s.t,1,s.ttl,x⟩:Rr))∧ ∀ j,j∈idA o→H.n≤j) ?_ (n:=s.d.length)
  ⟨0,.sl H.n 0 0,_,_,_,by omega,by omega,rfl,rfl,rfl,rfl,rfl,.new _ _,by simpa using hm0,fun j hj=>by simp only [idA,List.mem_singleton] at hj;omega⟩
 rintro m e M ⟨i,o,H',L0,g,hi,rfl,q1,q3,q4,rfl,hL0,he,hm,hid⟩;by_cases h1:(i:Int) < s.d.length
 ·have hil:i < s.d.length:=by omega
  have hg:(s.d.map AV.s).getD i .u= .s s.d[i]:=by simp [List.getD,hil]
  have ia:=fun (L:List Lv) (g:Nat)=>(Sl.ext h he).ia1 (j:=i) (v:= .s s.d[i]) (by omega) (by rw [List.length_map];omega) (by rw [Jj,hg];rfl) L g
  rw [Jj] at ia;obtain ⟨z1,z2,-⟩:=ia [] 0;have w4:IntKind.i64.wrap ((i:Int)+1)=((i+1:Nat):Int):=by rw [w64 (by omega) (by omega)];rfl
  obtain ⟨p1,o',H2,p2,p3,p4,p5,p6,p7,-,-⟩:=Mn.ap (by':=56) hm (Qk (t:=26) (g:=g) (x:=eR.v ⟨s.o,s.t,1,s.ttl,s.d[i]⟩) (L:=[⟨1,0,0,[.ag [.s s.o,.i .i64 s.t,.i .i64 s.ttl,d]]⟩]) (H:=H')) (by simp;omega)
  rw [show eR.z=5 from rfl,JcE] at p1 p2 p3
  simp -implicitDefEqProofs only [bU,Jc,Ja,Jb,bT,bV,Ja,Jb,Jg,q1,q3,q4,hL0,l1,l2,h1,z1,z2,ia,Jj,JG,JH,JE,JQ,List.replicate];simp -implicitDefEqProofs only [bU,p1,p2,p3,w4];refine ⟨_,by omega,i+1,o',H2,_,_,hil,rfl,rfl,rfl,rfl,rfl,⟨Nat.le_trans he.n p5,fun j hj=>by rw [p6 j (Nat.lt_of_lt_of_le hj he.n) fun hh=>by have:=hid j hh;omega];exact he.at' j hj⟩,?_,fun j hj=>(p7 j hj).elim (hid j) fun h=>Nat.le_trans he.n h⟩
  rw [List.take_succ_eq_append_getElem hil,List.map_append];show Mn H2 eR.z o' _
  rw [List.map_append];exact p4
 ·have hil:i=s.d.length:=by omega
  subst hil;rw [List.take_length] at hm;have ho:=(Mn.sl hm).out;simp -implicitDefEqProofs only [bU,Jc,Ja,bT,bV,Ja,q1,q3,q4,hL0,l1,l2,h1,ho,Jr,rsC,rsV,Js];exact ⟨he,hm,hid⟩
end
def JeT (z:Zn):List Rr:=if 500 < z.s.length∨500 < Jam z.s then [] else WQ z
section
variable {C:Tab}
def JbM (C:Tab) (f:Nat):Prop:= ∀ (z:Zn) (zs:AV) (ds:List AV) (H:AH),ZS H zs z.s ds→SzZ z→ ∃ v H',C f [.ag [.s z.a,zs]] H=some (v,H')∧Ext H H'∧Mx H' eR v (JeT z)∧ ∀ i,i∈idA v→H.n≤i
def JeO (C:Tab) (f:Nat):Prop:= ∀ (s t:Qa) (d d':AV) (H:AH),Sl H 1 d (s.d.map AV.s)→Sl H 1 d' (t.d.map AV.s)→s.d.length≤1048576→t.d.length≤1048576→C f [sV s d,sV t d'] H=some (.b (decide (s=t)),H)
def ZU (C:Tab) (f:Nat):Prop:= ∀ (z w:Zn) (zs ws:AV) (ds es:List AV) (H:AH),ZS H zs z.s ds→ZS H ws w.s es→z.s.length≤1048576→w.s.length≤1048576→(∀ s,s∈z.s→s.d.length≤1048576)→(∀ s,s∈w.s→s.d.length≤1048576)→C f [.ag [.s z.a,zs],.ag [.s w.a,ws]] H=some (.b (decide (z=w)),H)
def Jrr (C:Tab) (f:Nat):Prop:= ∀ (z:Zn) (zs:AV) (ds:List AV) (H:AH),ZS H zs z.s ds→SzZ z→C f [.ag [.s z.a,zs]] H=some (.i .i64 (ckz z),H)
theorem Jmy {z:Zn} {zs:AV} {ds:List AV} {H:AH} (hC:Jgr C XG) (hR:Je1 C Qz) (hJ:JhX C Zh) (h:ZS H zs z.s ds) (hz:SzZ z):
  Jt C Q6 [.ag [.s z.a,zs]] H fun v H'=>Ext H H'∧Mx H' eR v (JeT z)∧ ∀ i,i∈idA v→H.n≤i:=by
 unfold Jt Q6;obtain ⟨l1,l2⟩:=h.row.len;rw [QK h.len] at l1;have zo:=h.row.out;have zc:=h.row.one;have hm0:Mx (H.new (.arr true 0 5 [])) eR (.sl H.n 0 0) []:= .own (by simp) QD
 have k1:=hC z.a zs z.s ds (H.new (.arr true 0 5 [])) (h.ext (.new _ _)) hz.s hz.c;have hid0: ∀ j,j∈idA (AV.sl H.n 0 0)→H.n≤j:=fun j hj=>by simp only [idA,List.mem_singleton] at hj;omega
 unfold JeT;by_cases h5:(500:Int) < z.s.length
 ·simp -implicitDefEqProofs only [bU,Jc,reduceCtorEq,Ja,bT,bV,Ja,l1,l2,h5,JE,JQ,List.replicate,Jr,rsC,rsV,Js]
  rw [if_pos (.inl (by omega))]
  exact ⟨.new _ _,hm0,hid0⟩
 ·by_cases h6:(500:Int) < (Jam z.s:Nat)
  ·simp -implicitDefEqProofs only [bU,Jc,reduceCtorEq,Ja,bT,bV,Ja,l1,l2,h5,h6,k1,JE,JQ,List.replicate,Jr,rsC,rsV,Js]
   rw [if_pos (.inr (by omega))]
   exact ⟨.new _ _,hm0,hid0⟩
  ·rw [if_neg (by omega)]
   have hrl:(WQ z).length≤500:=by rw [Jcq];show Jam z.s≤500;omega
   simp -implicitDefEqProofs only [bU,Jc,reduceCtorEq,Ja,bT,bV,Ja,l1,l2,h5,h6,k1,JE,JQ,List.replicate]
   refine Jl (fun m e M=> ∃ (i:Nat) (o:AV) (H':AH) (g:Nat),i≤z.s.length∧m=z.s.length-i∧look e 1= .la 1 0 0 0∧look e 3=o∧look e 4= .i .i64 i∧M=⟨[⟨1,0,0,[.ag [.s z.a,zs]]⟩],g,H'⟩∧Ext H H'∧Mx H' eR o ((z.s.take i).flatMap JbC)∧ ∀ j,j∈idA o→H.n≤j) ?_ (n:=z.s.length)
    ⟨0,.sl H.n 0 0,_,_,by omega,by omega,rfl,rfl,rfl,rfl,.new _ _,by simpa using hm0,hid0⟩
   clear k1 hm0 hid0;rintro m e M ⟨i,o,H',g,hi,rfl,q1,q3,q4,rfl,he,hm,hid⟩;by_cases h1:(i:Int) < z.s.length
   ·have hil:i < z.s.length:=by omega
    have hidd:i < ds.length:=by rw [h.len];exact hil
    obtain ⟨a1,a2,a3,-,-,-,-,-,a9,a10⟩:=(h.ext he).at' hil hidd;have hmem:=List.getElem_mem hil;have hdl:z.s[i].d.length≤1048576:=Nat.le_trans (Jah hmem) hz.c;obtain ⟨v1,H1,k1,e1,m1,i1⟩:=hR z.s[i] ds[i] H' ((h.ext he).dat i hil hidd) hdl;have hm':=hm.ext e1
    have hdj:Dj v1 o:=fun j hj hj2=>by
     have:=i1 j hj;have:=hm.lt j hj2;omega
    have hpre: ∀ k,((z.s.take k).flatMap JbC).length≤500:=fun k=>by
     have:WQ z=(z.s.take k).flatMap JbC++(z.s.drop k).flatMap JbC:=by unfold WQ;rw [←List.flatMap_append,List.take_append_drop]
     rw [this,List.length_append] at hrl;omega
    have hsn:(z.s.take (i+1)).flatMap JbC=(z.s.take i).flatMap JbC++JbC z.s[i]:=by
     rw [List.take_succ_eq_append_getElem hil,List.flatMap_append];simp
    have hp1:=hpre (i+1);rw [hsn,List.length_append] at hp1;obtain ⟨v2,H2,k2,m2,kp,i2⟩:=hJ o v1 _ _ H1 hm' m1.sl hdj (by omega)
    have w4:IntKind.i64.wrap ((i:Int)+1)=((i+1:Nat):Int):=by rw [w64 (by omega) (by omega)];rfl
    have bd:z.s.length- (i+1) < z.s.length-i:=by omega
    have oo:=(Mn.sl hm).out;have v1o:=(Mn.sl m1).out;have so:(sV z.s[i] ds[i]).outs=true:=rfl;simp -implicitDefEqProofs only [bU,Jc,Ja,bT,bV,Ja,q1,q3,q4,l1,l2,h1,Jj,a1,a2,a9,a10,so,k1,k2,oo,v1o,w4];refine ⟨_,bd,i+1,v2,H2,_,hil,rfl,rfl,rfl,rfl,kp.put (he.trans e1) hid,by rw [hsn];exact m2,fun j hj=>(i2 j hj).elim (hid j) fun h=>Nat.le_trans (he.trans e1).n h⟩
   ·have hil:i=z.s.length:=by omega
    subst hil;rw [List.take_length] at hm;have oo:=(Mn.sl hm).out;simp -implicitDefEqProofs only [bU,Jc,Ja,bT,bV,Ja,q1,q3,q4,l1,l2,h1,oo,Jr,rsC,rsV,Js];exact ⟨he,hm,hid⟩
theorem Qa.eq_iff (s t:Qa):s=t↔s.o=t.o∧s.t=t.t∧s.ttl=t.ttl∧s.d=t.d:=by
 cases s;cases t;simp
theorem JcA {α:Type} {a b:List α} (hl:a.length=b.length) (h: ∀ i (h1:i < a.length) (h2:i < b.length),a[i]=b[i]):a=b:=List.ext_getElem hl h
theorem JkC {s t:Qa} {d d':AV} {H:AH} (h:Sl H 1 d (s.d.map AV.s)) (h':Sl H 1 d' (t.d.map AV.s)) (hl:s.d.length≤1048576) (hl':t.d.length≤1048576):Jt C Wi [sV s d,sV t d'] H fun v H'=>v= .b (decide (s=t))∧QA H H':=by
 unfold Jt Wi;have hk:=JA H;obtain ⟨l1,l2⟩:=h.len;obtain ⟨l3,l4⟩:=h'.len;rw [List.length_map] at l1 l3;have no:s≠t→false=decide (s=t):=fun hne=>(decide_eq_false hne).symm
 by_cases h1:s.o=t.o
 ·by_cases h2:s.t=t.t
  ·by_cases h3:s.ttl=t.ttl
   ·by_cases h4:s.d.length=t.d.length
    ·have h4':((s.d.length:Int)=(t.d.length:Int))=True:=eq_true (by omega)
     simp -implicitDefEqProofs only [bU,Jc,reduceCtorEq,Ja,Jb,bT,bV,Ja,Jb,sV,h1,h2,h3,h4',l1,l2,l3,l4]
     refine Jl (fun m e M=> ∃ (i:Nat) (g:Nat),i≤s.d.length∧m=s.d.length-i∧look e 2= .la 2 0 0 0∧look e 3= .la 3 1 0 0∧look e 5= .i .i64 i∧M=⟨[⟨3,1,0,[.ag [.s t.o,.i .i64 t.t,.i .i64 t.ttl,d']]⟩,⟨2,0,0,[.ag [.s t.o,.i .i64 t.t,.i .i64 t.ttl,d]]⟩],g,H⟩∧ ∀ j (h1:j < s.d.length) (h2:j < t.d.length),j < i→s.d[j]=t.d[j]) ?_ (n:=s.d.length)
      ⟨0,_,by omega,by omega,rfl,rfl,rfl,rfl,fun j _ _ hj=>by omega⟩
     rintro m e M ⟨i,g,hi,rfl,q2,q3,q5,rfl,hp⟩;by_cases h5:(i:Int) < t.d.length
     ·have hil:i < s.d.length:=by omega
      have hil':i < t.d.length:=by omega
      have hg:(s.d.map AV.s).getD i .u= .s s.d[i]:=by simp [List.getD,hil]
      have hg':(t.d.map AV.s).getD i .u= .s t.d[i]:=by simp [List.getD,hil']
      have ia:=fun (L:List Lv) (g:Nat)=>h.ia1 (j:=i) (v:= .s s.d[i]) (by omega) (by rw [List.length_map];omega) (by rw [Jj,hg];rfl) L g
      have ib:=fun (L:List Lv) (g:Nat)=>h'.ia1 (j:=i) (v:= .s t.d[i]) (by omega) (by rw [List.length_map];omega) (by rw [Jj,hg'];rfl) L g
      rw [Jj] at ia ib;obtain ⟨z1,z2,-⟩:=ia [] 0;obtain ⟨z3,z4,-⟩:=ib [] 0;have w5:IntKind.i64.wrap ((i:Int)+1)=((i+1:Nat):Int):=by rw [w64 (by omega) (by omega)];rfl
      have bd:s.d.length- (i+1) < s.d.length-i:=by omega
      have h5':(i:Int) < s.d.length:=by omega
      by_cases he:s.d[i]=t.d[i]
      ·simp -implicitDefEqProofs only [bU,Jc,reduceCtorEq,Ja,bT,bV,Ja,q2,q3,q5,l1,l2,h5',Jj,z1,z2,z3,z4,ia,ib,he,w5]
       exact ⟨_,bd,i+1,_,hil,rfl,rfl,rfl,fun j j1 j2 hj=>by
        by_cases e:j=i
        ·subst e;exact he
        ·exact hp j j1 j2 (by omega)⟩
      ·simp -implicitDefEqProofs only [bU,Jc,reduceCtorEq,Ja,bT,bV,Ja,q2,q3,q5,l1,l2,h5',Jj,z1,z2,z3,z4,ia,ib,he,Jr,rsC,rsV,Js]
       exact ⟨no (fun e=>he (by subst e;rfl)),hk⟩
     ·have hie:i=s.d.length:=by omega
      have h5': ¬ (i:Int) < s.d.length:=by omega
      simp -implicitDefEqProofs only [bU,Jc,reduceCtorEq,Ja,bT,bV,Ja,q2,q3,q5,l1,l2,h5',Jr,rsC,rsV,Js];have:s=t:=(Qa.eq_iff s t).2 ⟨h1,h2,h3,JcA h4 fun j j1 j2=>hp j j1 j2 (by omega)⟩
      exact ⟨by rw [decide_eq_true this],hk⟩
    ·have h4': ¬ (s.d.length:Int)=(t.d.length:Int):=by omega
     simp -implicitDefEqProofs only [bU,Jc,reduceCtorEq,Ja,Jb,bT,bV,Ja,Jb,sV,h1,h2,h3,h4',l1,l2,l3,l4,Jr,rsC,rsV,Js];exact ⟨no (fun e=>h4 (by rw [e])),hk⟩
   ·simp -implicitDefEqProofs only [bU,Jc,reduceCtorEq,Ja,Jb,bT,bV,Ja,Jb,sV,h1,h2,h3,Jr,rsC,rsV,Js]
    exact ⟨no (fun e=>h3 (by rw [e])),hk⟩
  ·simp -implicitDefEqProofs only [bU,Jc,reduceCtorEq,Ja,Jb,bT,bV,Ja,Jb,sV,h1,h2,Jr,rsC,rsV,Js]
   exact ⟨no (fun e=>h2 (by rw [e])),hk⟩
 ·simp -implicitDefEqProofs only [bU,Jc,reduceCtorEq,Ja,bT,bV,Ja,sV,h1,Jr,rsC,rsV,Js]
  exact ⟨no (fun e=>h1 (by rw [e])),hk⟩
theorem Zn.eq_iff (z w:Zn):z=w↔z.a=w.a∧z.s=w.s:=by cases z;cases w;simp
theorem Jib {z w:Zn} {zs ws:AV} {ds es:List AV} {H:AH} (hS:JeO C XO) (h:ZS H zs z.s ds) (h':ZS H ws w.s es) (hl:z.s.length≤1048576) (hl':w.s.length≤1048576) (hd: ∀ s,s∈z.s→s.d.length≤1048576) (hd': ∀ s,s∈w.s→s.d.length≤1048576):
  Jt C QZ [.ag [.s z.a,zs],.ag [.s w.a,ws]] H fun v H'=>v= .b (decide (z=w))∧QA H H':=by
 unfold Jt QZ;have hk:=JA H;obtain ⟨l1,l2⟩:=h.row.len;obtain ⟨l3,l4⟩:=h'.row.len;rw [QK h.len] at l1;rw [QK h'.len] at l3;have zo:=h.row.out;have wo:=h'.row.out;have no:z≠w→false=decide (z=w):=fun hne=>(decide_eq_false hne).symm
 by_cases h1:z.a=w.a
 ·by_cases h4:z.s.length=w.s.length
  ·have h4':((z.s.length:Int)=(w.s.length:Int))=True:=eq_true (by omega)
   simp -implicitDefEqProofs only [bU,Jc,reduceCtorEq,Ja,bT,bV,Ja,h1,h4',l1,l2,l3,l4]
   refine Jl (fun m e M=> ∃ (i:Nat) (g:Nat),i≤z.s.length∧m=z.s.length-i∧look e 2= .la 2 0 0 0∧look e 3= .la 3 1 0 0∧look e 5= .i .i64 i∧M=⟨[⟨3,1,0,[.ag [.s w.a,ws]]⟩,⟨2,0,0,[.ag [.s w.a,zs]]⟩],g,H⟩∧ ∀ j (h1:j < z.s.length) (h2:j < w.s.length),j < i→z.s[j]=w.s[j]) ?_ (n:=z.s.length)
    ⟨0,_,by omega,by omega,rfl,rfl,rfl,rfl,fun j _ _ hj=>by omega⟩
   rintro m e M ⟨i,g,hi,rfl,q2,q3,q5,rfl,hp⟩;by_cases h5:(i:Int) < w.s.length
   ·have hil:i < z.s.length:=by omega
    have hil':i < w.s.length:=by omega
    have hid:i < ds.length:=by rw [h.len];exact hil
    have hid':i < es.length:=by rw [h'.len];exact hil'
    obtain ⟨a1,a2,a3,-,-,-,-,-,a9,a10⟩:=h.at' hil hid;obtain ⟨b1,b2,b3,-,-,-,-,-,b9,b10⟩:=h'.at' hil' hid';have kS:=hS z.s[i] w.s[i] ds[i] es[i] H (h.dat i hil hid) (h'.dat i hil' hid') (hd _ (List.getElem_mem hil)) (hd' _ (List.getElem_mem hil'));have w5:IntKind.i64.wrap ((i:Int)+1)=((i+1:Nat):Int):=by rw [w64 (by omega) (by omega)];rfl
    have bd:z.s.length- (i+1) < z.s.length-i:=by omega
    have h5':(i:Int) < z.s.length:=by omega
    have so:(sV z.s[i] ds[i]).outs=true:=rfl;have so':(sV w.s[i] es[i]).outs=true:=rfl;by_cases he:z.s[i]=w.s[i]
    ·rw [decide_eq_true he] at kS
     simp -implicitDefEqProofs only [bU,Jc,reduceCtorEq,Ja,bT,bV,Ja,q2,q3,q5,l1,l2,h5',Jj,a1,a2,a9,a10,b1,b2,b9,b10,so,so',kS,w5]
     exact ⟨_,bd,i+1,_,hil,rfl,rfl,rfl,fun j j1 j2 hj=>by
      by_cases e:j=i
      ·subst e;exact he
      ·exact hp j j1 j2 (by omega)⟩
    ·rw [decide_eq_false he] at kS
     simp -implicitDefEqProofs only [bU,Jc,reduceCtorEq,Ja,bT,bV,Ja,q2,q3,q5,l1,l2,h5',Jj,a1,a2,a9,a10,b1,b2,b9,b10,so,so',kS,Jr,rsC,rsV,Js];exact ⟨no (fun e=>he (by subst e;rfl)),hk⟩
   ·have hie:i=z.s.length:=by omega
    have h5': ¬ (i:Int) < z.s.length:=by omega
    simp -implicitDefEqProofs only [bU,Jc,reduceCtorEq,Ja,bT,bV,Ja,q2,q3,q5,l1,l2,h5',Jr,rsC,rsV,Js];have:z=w:=(Zn.eq_iff z w).2 ⟨h1,JcA h4 fun j j1 j2=>hp j j1 j2 (by omega)⟩
    exact ⟨by rw [decide_eq_true this],hk⟩
  ·have h4': ¬ (z.s.length:Int)=(w.s.length:Int):=by omega
   simp -implicitDefEqProofs only [bU,Jc,reduceCtorEq,Ja,bT,bV,Ja,h1,h4',l1,l2,l3,l4,Jr,rsC,rsV,Js];exact ⟨no (fun e=>h4 (by rw [e])),hk⟩
 ·simp -implicitDefEqProofs only [bU,Jc,reduceCtorEq,Ja,bT,bV,Ja,h1,Jr,rsC,rsV,Js]
  exact ⟨no (fun e=>h1 (by rw [e])),hk⟩
end
theorem JjW (l:List Zi):(keysOf l).length≤l.length:=by
 induction l using Jaj with
 | h0=>simp [keysOf]
 | h1 l x ih=>
  rw [Q7];split<;>simp <;>omega
theorem Jlz (L:List Zi):(Ja3 L).length≤L.length∧ ∀ s,s∈Ja3 L→s.d.length≤L.length:=by
 have hk:(J2 L).length≤L.length:=by
  unfold J2 Jn;rw [List.length_map];exact Nat.le_trans (List.length_filter_le _ _) (by simp)
 constructor
 ·unfold Ja3
  rw [List.length_map,(Qj _).length_eq];exact Nat.le_trans (JjW _) hk
 ·intro s hs
  unfold Ja3 at hs;obtain ⟨k,-,rfl⟩:=List.mem_map.1 hs;simp only [mkS,List.length_map,(Qj _).length_eq];exact Nat.le_trans (List.length_filter_le _ _) hk
theorem Joo (l:List Rr) (a:List UInt8):(bz l a).1.s.length≤l.length∧ ∀ s,s∈(bz l a).1.s→s.d.length≤l.length:=by
 unfold bz;repeat' split
 all_goals first
  | exact ⟨Nat.zero_le _,fun s hs=>by cases hs⟩
  | (have:=Jlz (l.map zi);simpa using this)
theorem JiF {z:Zn} (hz:SzZ z):szL (WQ z):=by
 intro r hr;obtain ⟨s,hs,hr⟩:=List.mem_flatMap.1 hr;obtain ⟨d,hd,rfl⟩:=List.mem_map.1 hr;have:=hz.o s hs;have:=hz.d s hs d hd;exact ⟨by simp only;omega,by simp only;omega⟩
section
variable {C:Tab}
theorem Jtx {z:Zn} {zs:AV} {ds:List AV} {H:AH} (hC:Jgr C XG) (hR:JbM C WX) (hB:Jwv C Yb) (hS:ZU C WW) (h:ZS H zs z.s ds) (hz:SzZ z):
  Jt C WC [.ag [.s z.a,zs]] H fun v H'=>v= .i .i64 (ckz z)∧QA H H':=by
 unfold Jt WC;have hk:=JA H;obtain ⟨l1,l2⟩:=h.row.len;rw [QK h.len] at l1;have zo:=h.row.out;have zc:=h.row.one;have k1:=hC z.a zs z.s ds H h hz.s hz.c;have hcz:JkI z=Jam z.s:=rfl;unfold ckz;rw [hcz];by_cases h5:(500:Int) < z.s.length
 ·rw [if_pos (.inl (by omega))]
  simp -implicitDefEqProofs only [bU,Jc,reduceCtorEq,Ja,bT,bV,Ja,l1,l2,h5,Jr,rsC,rsV,Js];exact hk
 ·by_cases h6:(500:Int) < (Jam z.s:Nat)
  ·rw [if_pos (.inr (by omega))]
   simp -implicitDefEqProofs only [bU,Jc,reduceCtorEq,Ja,bT,bV,Ja,l1,l2,h5,h6,k1,Jr,rsC,rsV,Js];exact hk
  ·rw [if_neg (by omega)]
   obtain ⟨v1,H1,k2,e1,m1,i1⟩:=hR z zs ds H h hz;have hzr:JeT z=WQ z:=by unfold JeT;rw [if_neg (by omega)]
   rw [hzr] at m1;have hrl:(WQ z).length≤500:=by rw [Jcq,hcz];omega
   obtain ⟨v2,H2,k3,e2,ws,es,rfl,hw⟩:=hB v1 (WQ z) z.a H1 m1.sl (by omega) (JiF hz) (by have:=hz.a;omega)
   have v1o:=(Mn.sl m1).out;have wo:=hw.rd.row.out;have wc:=hw.rd.row.one;obtain ⟨b1,b2⟩:=Joo (WQ z) z.a;have kS:=hS (bz (WQ z) z.a).1 z ws zs es ds H2 hw.rd (h.ext (e1.trans e2)) (by omega) hz.s (fun s hs=>by have:=b2 s hs;omega) fun s hs=>Nat.le_trans (Jah hs) hz.c
   generalize bz (WQ z) z.a=R at k3 kS ⊢;generalize hg:(if R.2.1=0∧R.1=z then (0:Int) else 32)=res
   by_cases hc:R.2.1=0
   ·by_cases he:R.1=z
    ·rw [decide_eq_true he] at kS
     have hc':(R.2.1=0)=True:=eq_true hc;simp -implicitDefEqProofs only [bU,Jc,reduceCtorEq,Ja,Jb,bT,bV,Ja,Jb,Qs,J6,l1,l2,h5,h6,k1,k2,k3,v1o,hc',kS,Jr,rsC,rsV,Js];rw [if_pos ⟨hc,he⟩] at hg;exact ⟨by rw [hg],.of (e1.trans e2)⟩
    ·rw [decide_eq_false he] at kS
     have hc':(R.2.1=0)=True:=eq_true hc;simp -implicitDefEqProofs only [bU,Jc,reduceCtorEq,Ja,Jb,bT,bV,Ja,Jb,Qs,J6,l1,l2,h5,h6,k1,k2,k3,v1o,hc',kS,Jr,rsC,rsV,Js];rw [if_neg fun h=>he h.2] at hg
     exact ⟨by rw [hg],.of (e1.trans e2)⟩
   ·simp -implicitDefEqProofs only [bU,Jc,reduceCtorEq,Ja,Jb,bT,bV,Ja,Jb,Qs,J6,l1,l2,h5,h6,k1,k2,k3,v1o,hc,Jr,rsC,rsV,Js]
    rw [if_neg fun h=>hc h.1] at hg
    exact ⟨by rw [hg],.of (e1.trans e2)⟩
end
section
variable {C:Tab} {rs:List Rs} {G:AV→AH→Prop}
def One (C:Tab) (rs:List Rs) (G:AV→AH→Prop) (s:S) (e:Env) (M:Mem):Prop:= ∃ r:AV×AH,G r.1 r.2∧exec C s e M (Jr rs fun v H'=>v=r.1∧H'=r.2)
def Jum (C:Tab) (rs:List Rs) (G:AV→AH→Prop) (b:S):Jaa:=fun x e M=>match x with
 | .nx=>One C rs G b e M
 | .ex id=>Jr rs G (.ex id) e M
 | .rt=>Jr rs G .rt e M
theorem XI {b:S} {e:Env} {M:Mem}:Jum C rs G b .nx e M=One C rs G b e M:=rfl
theorem Jay {b:S} {e:Env} {M:Mem}:Jum C rs G b .rt e M=Jr rs G .rt e M:=rfl
theorem One.q {a b:S} {e:Env} {M:Mem} (ha:JhS a=true) (h:exec C a e M (Jum C rs G b)):One C rs G (.q a b) e M:=by
 obtain ⟨x,e',M',h1,h2⟩:=JgY a e M ha h;cases x with
 | nx=>
  obtain ⟨r,r1,r2⟩:=h1;refine ⟨r,r1,J4 a (fun x e2 M2 ⟨a1,a2,a3⟩=> ?_) e M h2⟩
  subst a1 a2 a3;exact r2
 | ex id=>exact h1.1.elim
 | rt=>
  obtain ⟨h3,h4,h5⟩:=h1;refine ⟨(Js (rsV e' M' rs),M'.h),h5,J4 a (fun x e2 M2 ⟨a1,a2,a3⟩=> ?_) e M h2⟩
  subst a1 a2 a3;exact ⟨trivial,h4,rfl,rfl⟩
theorem One.nd {a b:S} {e e1:Env} {M M1:Mem} (h:exec C a e M fun x e' M'=>x= .nx∧e'=e1∧M'=M1) (hb:One C rs G b e1 M1):One C rs G (.q a b) e M:=by
 obtain ⟨r,r1,r2⟩:=hb;refine ⟨r,r1,J4 a (fun x e2 M2 ⟨a1,a2,a3⟩=> ?_) e M h⟩
 subst a1 a2 a3;exact r2
theorem One.ndr {a b:S} {e:Env} {M:Mem} {v0:AV} {H0:AH} (h:exec C a e M fun x e' M'=>x= .rt∧rsC e' M' rs∧Js (rsV e' M' rs)=v0∧M'.h=H0) (hg:G v0 H0):One C rs G (.q a b) e M:=by
 refine ⟨(v0,H0),hg,J4 a (fun x e2 M2 ⟨a1,a2,a3,a4⟩=> ?_) e M h⟩
 subst a1;exact ⟨trivial,a2,a3,a4⟩
theorem One.det {s:S} {e:Env} {M:Mem} (hs:JhS s=true) (h:exec C s e M (Jr rs G)):One C rs G s e M:=by
 obtain ⟨x,e',M',⟨h3,h4,h5⟩,h2⟩:=JgY s e M hs h;refine ⟨(Js (rsV e' M' rs),M'.h),h5,J4 s (fun x e2 M2 ⟨a1,a2,a3⟩=> ?_) e M h2⟩
 subst a1 a2 a3;exact ⟨h3,h4,rfl,rfl⟩
theorem One.entry {F:Fn} {vs:List AV} {H:AH} (h:One C F.rs G F.s (args 0 vs) ⟨[],0,H⟩): ∃ r:AV×AH,G r.1 r.2∧Jt C F vs H fun v H'=>v=r.1∧H'=r.2:=h
end
section
variable {C:Tab} {l:List Rr} {a:AV} {apex:List UInt8} {H:AH} {e:Env} {L0:List Lv} {g:Nat} {κ:Jaa}
set_option maxHeartbeats 4000000 in
theorem Jux (hs:Sx H eR a l) (hl:l.length≤500) (hFo:JR H) (hN:Jb2 C XM) (hI:Jch C XP) (hM:JeC C YK) (hK:Jc9 C Qg) (hU:JbI C WP) (hsz:szL l) (ha:apex.length≤1099511627776)
  (q0:look e 0=a) (q1:look e 1= .s apex) (q4:look e 4= .la 4 0 0 0) (hL0:JJ [0,1,4,62,63,64] L0=[⟨4,0,0,[z0V]⟩])
  (hit: ∀ i e' L' g',JL l.length (fun i=>decide (Jai (l.getD i rrZ) apex≠0))=some i→Qx L' 4 0 0=some [z0V]→look e' 4= .la 4 0 0 0→look e' 5= .i .i64 (Jai (l.getD i rrZ) apex)→look e' 6= .i .i64 (i:Nat)→κ .rt e' ⟨L',g',H⟩)
  (miss:(∀ i,i < l.length→Jai (l.getD i rrZ) apex=0)→ ∀ e' g',look e' 0=a→look e' 1= .s apex→look e' 4= .la 4 0 0 0→κ .nx e' ⟨[⟨4,0,0,[z0V]⟩],g',H⟩):
  exec C (sAt Jk.s [1,1,1,0]) e ⟨L0,g,H⟩ κ:=by
 simp only [Jk,sAt];obtain ⟨l1,l2⟩:=hs.len;simp -implicitDefEqProofs only [bU,bT,q0,l1,l2]
 refine Jl (fun m e M=> ∃ (i:Nat) (L0:List Lv) (g:Nat),i≤l.length∧m=l.length-i∧look e 0=a∧look e 1= .s apex∧look e 4= .la 4 0 0 0∧look e 62=a∧look e 63= .i .i64 l.length∧look e 64= .i .i64 i∧M=⟨L0,g,H⟩∧JJ [0,1,4,62,63,64] L0=[⟨4,0,0,[z0V]⟩]∧ ∀ j,j < i→Jai (l.getD j rrZ) apex=0) ?_ (n:=l.length)
  ⟨0,_,_,by omega,by omega,by simp -implicitDefEqProofs only [bU,reduceCtorEq,bT,q0],by simp -implicitDefEqProofs only [bU,Jc,bT,q1],by simp -implicitDefEqProofs only [bU,Jc,bT,q4],rfl,rfl,rfl,rfl,hL0,fun j hj=>by omega⟩
 clear q0 q1 q4 hL0;rintro m e M ⟨i,L0,g,hi,rfl,q0,q1,q4,q62,q63,q64,rfl,hL0,hp⟩;by_cases h1:(i:Int) < l.length
 ·have hil:i < l.length:=by omega
  obtain ⟨z,c,f0,rc,rv,ld,v0,v1,v2,v3,v4⟩:=JgI hs hil;obtain ⟨s1,s2⟩:=hsz _ (List.getElem_mem hil);have hgd:l.getD i rrZ=l[i]:=by simp [List.getD,hil]
  have k1:=hN l[i].o H s1;have k2:=hI l[i].ttl 0 2147483647 H;have k3:=hM l[i].t H;have k3b:=hI l[i].t 1 65535 H;have k4:=hK l[i].t l[i].d H hFo s2;have k5:=hU l[i].o apex H s1 ha;have w9:IntKind.i64.wrap ((i:Int)+1)=((i+1:Nat):Int):=by rw [w64 (by omega) (by omega)];rfl
  have bd:l.length- (i+1) < l.length-i:=by omega
  have hfx:Jai l[i] apex≠0→JL l.length (fun i=>decide (Jai (l.getD i rrZ) apex≠0))=some i:=fun h=>Ym hil (decide_eq_true (by rw [hgd];exact h)) fun j hj=>decide_eq_false fun h=>h (hp j hj)
  have hh: ∀ {c:Int} {e':Env} {L':List Lv} {g':Nat},Jai l[i] apex=c→c≠0→Qx L' 4 0 0=some [z0V]→look e' 4= .la 4 0 0 0→look e' 5= .i .i64 c→look e' 6= .i .i64 (i:Nat)→κ .rt e' ⟨L',g',H⟩:=fun hc hne h1 h2 h3 h4=>hit i _ _ _ (hfx (by rw [hc];exact hne)) h1 h2 (by rw [hgd,hc];exact h3) h4
  have hz0:z0V= .ag [.s [],.ns]:=rfl;rw [JcE] at rv;cases hn:JB l[i].o with
  | none=>
   rw [hn] at k1;simp -implicitDefEqProofs only [bU,Jc,reduceCtorEq,Ja,bT,bV,Ja,q0,q1,q4,q62,q63,q64,h1,hL0,hz0,Jj,z,c,rc,rv,k1,Option.isSome_none,JG,JH,Jh];exact hh (c:=1) (by unfold Jai;rw [if_pos hn]) (by decide) rfl rfl rfl rfl
  | some ls=>
   rw [hn] at k1;have n0:JB l[i].o≠none:=by rw [hn];simp
   by_cases hc:l[i].c=1
   ·have hc':(l[i].c=1)=True:=eq_true hc
    by_cases ht:0≤l[i].ttl∧l[i].ttl≤2147483647
    ·rw [decide_eq_true ht] at k2
     cases hm:Jd5 l[i].t with
     | true=>
      rw [hm] at k3;simp -implicitDefEqProofs only [bU,Jc,reduceCtorEq,Ja,Jb,bT,bV,Ja,Jb,q0,q1,q4,q62,q63,q64,h1,hL0,hz0,Jj,z,c,rc,rv,k1,k2,k3,hc',Option.isSome_some,JG,JH,Jh];exact hh (c:=6) (by unfold Jai;rw [if_neg n0,if_neg (by simp [hc]),if_neg (by simpa using ht),if_pos (.inl hm)]) (by decide) rfl rfl rfl rfl
     | false=>
      rw [hm] at k3;have ht0:l[i].t≠0:=fun h=>by rw [h] at hm;simp [Jd5] at hm
      by_cases hr:1≤l[i].t∧l[i].t≤65535
      ·rw [decide_eq_true hr] at k3b
       by_cases hch:chk l[i].t l[i].d=0
       ·rw [hch] at k4
        cases hu:JfH l[i].o apex with
        | true=>
         rw [hu] at k5
         have hone:Jai l[i] apex=0:=by
          unfold Jai;rw [if_neg n0,if_neg (by simp [hc]),if_neg (by simpa using ht),if_neg (by rw [hm];simp;omega),if_neg (by simpa using hch),if_neg (by rw [hu];simp)]
         simp -implicitDefEqProofs only [bU,Jc,reduceCtorEq,Ja,Jb,bT,bV,Ja,Jb,q0,q1,q4,q62,q63,q64,h1,hL0,hz0,Jj,z,c,rc,rv,k1,k2,k3,k3b,k4,k5,hc',Option.isSome_some,w9]
         exact ⟨_,bd,i+1,_,_,hil,rfl,rfl,rfl,rfl,fun j hj=>by
          by_cases e:j=i
          ·subst e;rw [hgd];exact hone
          ·exact hp j (by omega)⟩
        | false=>
         rw [hu] at k5;simp -implicitDefEqProofs only [bU,Jc,reduceCtorEq,Ja,Jb,bT,bV,Ja,Jb,q0,q1,q4,q62,q63,q64,h1,hL0,hz0,Jj,z,c,rc,rv,k1,k2,k3,k3b,k4,k5,hc',Option.isSome_some,JG,JH,Jh]
         exact hh (c:=22) (by
          unfold Jai;rw [if_neg n0,if_neg (by simp [hc]),if_neg (by simpa using ht),if_neg (by rw [hm];simp;omega),if_neg (by simpa using hch),if_pos hu]) (by decide) rfl rfl rfl rfl
       ·simp -implicitDefEqProofs only [bU,Jc,reduceCtorEq,Ja,Jb,bT,bV,Ja,Jb,q0,q1,q4,q62,q63,q64,h1,hL0,hz0,Jj,z,c,rc,rv,k1,k2,k3,k3b,k4,hch,hc',Option.isSome_some,JG,JH,Jh]
        exact hh (c:=7) (by
          unfold Jai;rw [if_neg n0,if_neg (by simp [hc]),if_neg (by simpa using ht),if_neg (by rw [hm];simp;omega),if_pos (by simpa using hch)]) (by decide) rfl rfl rfl rfl
      ·rw [decide_eq_false hr] at k3b
       simp -implicitDefEqProofs only [bU,Jc,reduceCtorEq,Ja,Jb,bT,bV,Ja,Jb,q0,q1,q4,q62,q63,q64,h1,hL0,hz0,Jj,z,c,rc,rv,k1,k2,k3,k3b,hc',Option.isSome_some,JG,JH,Jh]
       exact hh (c:=6) (by
          unfold Jai;rw [if_neg n0,if_neg (by simp [hc]),if_neg (by simpa using ht),if_pos (by rw [hm];simp;omega)]) (by decide) rfl rfl rfl rfl
    ·rw [decide_eq_false ht] at k2
     simp -implicitDefEqProofs only [bU,Jc,reduceCtorEq,Ja,Jb,bT,bV,Ja,Jb,q0,q1,q4,q62,q63,q64,h1,hL0,hz0,Jj,z,c,rc,rv,k1,k2,hc',Option.isSome_some,JG,JH,Jh];exact hh (c:=18) (by unfold Jai;rw [if_neg n0,if_neg (by simp [hc]),if_pos ht]) (by decide) rfl rfl rfl rfl
   ·simp -implicitDefEqProofs only [bU,Jc,reduceCtorEq,Ja,Jb,bT,bV,Ja,Jb,q0,q1,q4,q62,q63,q64,h1,hL0,hz0,Jj,z,c,rc,rv,k1,hc,Option.isSome_some,JG,JH,Jh]
    exact hh (c:=19) (by unfold Jai;rw [if_neg n0,if_pos hc]) (by decide) rfl rfl rfl rfl
 ·have hil:i=l.length:=by omega
  subst hil;simp -implicitDefEqProofs only [bU,Jc,reduceCtorEq,bT,q0,q1,q4,q62,q63,q64,h1,hL0];exact miss hp _ _ (by simp -implicitDefEqProofs only [bU,reduceCtorEq,bT]) (by simp -implicitDefEqProofs only [bU,Jc,reduceCtorEq,bT]) (by simp -implicitDefEqProofs only [bU,Jc,reduceCtorEq,bT])
end
def Jnr (C:Tab) (f:Nat):Prop:= ∀ (n:Nat) (H:AH),n≤65535→C f [.i .i64 n] H=some (.s (JnB n),H)
abbrev Jdn (l:List Nat):List AV:=l.map fun (n:Nat)=>AV.i .i64 (n:Int)
section
variable {β:Type} {ev:β→AV} {H:AH} {id:Nat}
theorem Jkx {l:List (Jbj×β)} {rw:Bool} (h:H.at' id= .map rw (JaM kK ev l)) (f:List UInt8) (t:Int):JfI H (.mp id)∧Jby [.s,.i .i64] (Yq H (.mp id)) (.ag [.s f,.i .i64 t])∧Qf (Yq H (.mp id)) (.ag [.s f,.i .i64 t])=(Q8 l (f,t)).map ev:=Jqs (E:=kK) h (f,t)
theorem Jpj {l:List (List UInt8×β)} {rw:Bool} (h:H.at' id= .map rw (JaM kS ev l)) (s:List UInt8):JfI H (.mp id)∧Jby [.s] (Yq H (.mp id)) (.s s)∧Qf (Yq H (.mp id)) (.s s)=(Q8 l s).map ev:=Jqs (E:=kS) h s
theorem Jpr {l:List (Jbj×β)} (h:H.at' id= .map true (JaM kK ev l)) (f:List UInt8) (t:Int) {v:AV} (b:β) (hv:v=ev b):Jfp H (.mp id)∧Jby [.s,.i .i64] (Yq H (.mp id)) (.ag [.s f,.i .i64 t])∧ ∀ (L:List Lv) (g:Nat),Jfd ⟨L,g,H⟩ (Jax (Yq H (.mp id)) (.ag [.s f,.i .i64 t]) v) (.mp id)=⟨L,g,H.set id (.map true (JaM kK ev (Z4 l (f,t) b)))⟩:=by
 subst hv;exact JtA (E:=kK) h (f,t) b
theorem JsD {l:List (List UInt8×β)} (h:H.at' id= .map true (JaM kS ev l)) (s:List UInt8) {v:AV} (b:β) (hv:v=ev b):Jfp H (.mp id)∧Jby [.s] (Yq H (.mp id)) (.s s)∧ ∀ (L:List Lv) (g:Nat),Jfd ⟨L,g,H⟩ (Jax (Yq H (.mp id)) (.s s) v) (.mp id)=⟨L,g,H.set id (.map true (JaM kS ev (Z4 l s b)))⟩:=by
 subst hv;exact JtA (E:=kS) h s b
end
structure L2 (H H':AH) (Z:List Zi) (i:Nat) (o:AV):Prop where
 ext:Ext H H'
 n:H.n+2≤H'.n
 tm: ∃ lt:List (Jbj×Int),H'.at' H.n= .map true (JaM kK (.i .i64) lt)∧ ∀ k,Q8 lt k=((Z.take i).find? fun y=>decide (y.k=k)).map fun y=>y.r.ttl
 sn: ∃ ls:List (List UInt8×Bool),H'.at' (H.n+1)= .map true (JaM kS .b ls)∧ ∀ s,Q8 ls s=if s∈(Z.take i).map idZ then some true else none
 kp:Mn H' 1 o (Jdn ((List.range i).filter fun i=> !WN Z i))
 id: ∀ j,j∈idA o→H.n+2≤j
section
variable {C:Tab} {l:List Rr} {a:AV} {apex:List UInt8} {H:AH} {e:Env} {L0:List Lv} {g:Nat} {κ:Jaa}
theorem Jht {α β:Type} {f:α→β} {l:List α} {i:Nat} {y:β} (hi:i≤l.length):y∈(l.take i).map f↔ ∃ j,∃ (h:j < l.length),j < i∧f l[j]=y:=by
 rw [List.mem_map];constructor
 ·rintro ⟨x,hx,e⟩
  obtain ⟨j,hj,rfl⟩:=List.mem_take_iff_getElem.1 hx;exact ⟨j,by omega,by omega,e⟩
 ·rintro ⟨j,h,hj,e⟩
  exact ⟨l[j],List.mem_take_iff_getElem.2 ⟨j,by omega,rfl⟩,e⟩
set_option maxHeartbeats 4000000 in
theorem Jvl (hs:Sx H eR a l) (hl:l.length≤500) (hFo:JR H) (hLow:Ja1 C Qc) (hP:Jnr C JaE) (hD:Jk4 C Wh) (hsz:szL l) (hone: ∀ i,i < l.length→Jai (l.getD i rrZ) apex=0) {H1:AH} {o:AV} (hI:L2 H H1 (l.map zi) 0 o)
  (q0:look e 0=a) (q1:look e 1= .s apex) (q4:look e 4= .la 4 0 0 0) (q10:look e 10= .mp H.n) (q11:look e 11= .mp (H.n+1)) (q12:look e 12=o) (hL0:JJ [0,1,4,10,11,12,114,115,116] L0=[⟨4,0,0,[z0V]⟩])
  (hit: ∀ i e' L' g' H',JL l.length (JaZ (l.map zi))=some i→Ext H H'→Qx L' 4 0 0=some [z0V]→look e' 4= .la 4 0 0 0→look e' 5= .i .i64 24→look e' 6= .i .i64 (i:Nat)→κ .rt e' ⟨L',g',H'⟩)
  (miss:JL l.length (JaZ (l.map zi))=none→ ∀ e' g' H' o,Ext H H'→H.n+2≤H'.n→Mn H' 1 o (Jdn (Jn (l.map zi)))→(∀ j,j∈idA o→H.n+2≤j)→look e' 0=a→look e' 1= .s apex→look e' 4= .la 4 0 0 0→look e' 12=o→κ .nx e' ⟨[⟨4,0,0,[z0V]⟩],g',H'⟩):
  exec C (sAt Jk.s [1,1,1,1,1,1,1,0]) e ⟨L0,g,H1⟩ κ:=by
 simp only [Jk,sAt];obtain ⟨l1,l2⟩:=hs.len;have hZl:(l.map zi).length=l.length:=List.length_map _;simp -implicitDefEqProofs only [bU,bT,q0,l1,l2]
 refine Jl (fun m e M=> ∃ (i:Nat) (o:AV) (H':AH) (L0:List Lv) (g:Nat),i≤l.length∧m=l.length-i∧look e 0=a∧look e 1= .s apex∧look e 4= .la 4 0 0 0∧look e 10= .mp H.n∧look e 11= .mp (H.n+1)∧look e 12=o∧look e 114=a∧look e 115= .i .i64 l.length∧look e 116= .i .i64 i∧M=⟨L0,g,H'⟩∧JJ [0,1,4,10,11,12,114,115,116] L0=[⟨4,0,0,[z0V]⟩]∧L2 H H' (l.map zi) i o∧ ∀ j,j < i→JaZ (l.map zi) j=false) ?_ (n:=l.length)
  ⟨0,o,H1,_,_,by omega,by omega,by simp -implicitDefEqProofs only [bU,reduceCtorEq,bT,q0],by simp -implicitDefEqProofs only [bU,Jc,bT,q1],by simp -implicitDefEqProofs only [bU,Jc,bT,q4],by simp -implicitDefEqProofs only [bU,Jc,bT,q10],by simp -implicitDefEqProofs only [bU,Jc,bT,q11],by simp -implicitDefEqProofs only [bU,Jc,bT,q12],rfl,rfl,rfl,rfl,hL0,hI,fun j hj=>by omega⟩
 clear q0 q1 q4 q10 q11 q12 hL0 hI;rintro m e M ⟨i,o,H',L0,g,hi,rfl,q0,q1,q4,q10,q11,q12,q114,q115,q116,rfl,hL0,⟨he,hn2,⟨lt,t1,t2⟩,⟨ls,s1,s2⟩,hkp,hid⟩,hp⟩;by_cases h1:(i:Int) < l.length
 ·have hil:i < l.length:=by omega
  obtain ⟨z,c,f0,rc,rv,ld,v0,v1,v2,v3,v4⟩:=JgI (Sl.ext hs he) hil;obtain ⟨z1,z2⟩:=hsz _ (List.getElem_mem hil);have hgd:l.getD i rrZ=l[i]:=by simp [List.getD,hil]
  have ho:=hone i hil;rw [hgd] at ho;obtain ⟨⟨ls',hn'⟩,hcl,htt,hme,hty,hch,hun⟩:=Ze ho;have hil':i < (l.map zi).length:=by rw [hZl];exact hil
  have hit':itZ (l.map zi) i=zi l[i]:=by rw [Z5 hil'];simp
  have hall: ∀ j (hj:j < (l.map zi).length),((∃ b,JB (l.map zi)[j].f=some b)∧Jq (l.map zi)[j].f=(l.map zi)[j].f)∧(0≤(l.map zi)[j].r.t∧(l.map zi)[j].r.t≤65535):=fun j hj=>by
   have hjl:j < l.length:=by rw [hZl] at hj;exact hj
   have h2:=hone j hjl;rw [show l.getD j rrZ=l[j] by simp [List.getD,hjl]] at h2
   obtain ⟨⟨b,hb⟩,-,-,-,hty,-⟩:=Ze h2;simp only [List.getElem_map];exact ⟨⟨⟨_,ZX hb⟩,JcO hb⟩,hty⟩
  have k1:=hLow l[i].o H' z1;rw [←Xh hn'] at k1;have htn:l[i].t=((l[i].t.toNat:Nat):Int):=by omega
  have k4:JaZ (l.map zi) i=match ((l.map zi).take i).find? (fun y=>decide (y.k=(zi l[i]).k)) with
    | some y=>decide (y.r.ttl≠l[i].ttl)
    | none=>false:=by unfold JaZ;rw [hit'];rfl
  have kt:=Jkx t1 (Jq l[i].o) l[i].t;rw [t2] at kt;obtain ⟨u1,u2,u3⟩:=kt;have w9:IntKind.i64.wrap ((i:Int)+1)=((i+1:Nat):Int):=by rw [w64 (by omega) (by omega)];rfl
  have bd:l.length- (i+1) < l.length-i:=by omega
  have hz0:z0V= .ag [.s [],.ns]:=rfl;rw [JcE] at rv;have hfk:(fun y:Zi=>decide (y.k=(Jq l[i].o,l[i].t)))=fun y=>decide (y.k=(zi l[i]).k):=rfl
  rw [hfk] at u3;have nxm:JaZ (l.map zi) i=false→ ∀ j,j < i+1→JaZ (l.map zi) j=false:=Y8 hp;obtain ⟨m1,m2,m3⟩:=Jpr t1 (Jq l[i].o) l[i].t l[i].ttl (v:= .i .i64 l[i].ttl) rfl;have hp16:=fun (Hx:AH)=>hP l[i].t.toNat Hx (by omega)
  rw [←htn] at hp16;have hbe:JnB l[i].t.toNat=[UInt8.ofNat (l[i].t.toNat / 256),UInt8.ofNat l[i].t.toNat]:=rfl;have hidz:idZ (zi l[i])=(Jq l[i].o++JnB l[i].t.toNat)++XL l[i].t l[i].d:=by unfold idZ;rw [hbe];rfl
  have hlen:(Jq l[i].o++JnB l[i].t.toNat).length+(XL l[i].t l[i].d).length≤9223372036854775807:=by
   have a1:=Jkt l[i].o;have a2:=JkM l[i].t l[i].d;simp only [List.length_append,hbe,List.length_cons,List.length_nil];omega
  have hlen1:(Jq l[i].o).length+(JnB l[i].t.toNat).length≤9223372036854775807:=by
   simp only [List.length_append] at hlen;omega
  generalize hH2:H'.set H.n (.map true (JaM kK (AV.i .i64) (Z4 lt (Jq l[i].o,l[i].t) l[i].ttl)))=H2 at m3;have e2:Ext H H2:=by subst hH2;exact he.set (Nat.le_refl _)
  have n2:H2.n=H'.n:=by subst hH2;rfl
  have at2: ∀ j,j≠H.n→H2.at' j=H'.at' j:=fun j hj=>by subst hH2;exact XQ hj
  have t12:H2.at' H.n= .map true (JaM kK (.i .i64) (Z4 lt (Jq l[i].o,l[i].t) l[i].ttl)):=by subst hH2;exact Z9
  have s12:H2.at' (H.n+1)= .map true (JaM kS .b ls):=by rw [at2 _ (by omega)];exact s1
  have kp2:Mn H2 1 o (Jdn ((List.range i).filter fun i=> !WN (l.map zi) i)):=hkp.fr (by omega) fun j hj=>at2 j (by have:=hid j hj;omega)
  have hD2:=hD l[i].t l[i].d H2 (hFo.ext e2) z2;obtain ⟨b1,b2,b3⟩:=Jpj s12 (idZ (zi l[i]));rw [s2] at b3
  have hinm:idZ (zi l[i])∈((l.map zi).take i).map idZ↔WN (l.map zi) i=true:=by
   rw [Jht (Nat.le_of_lt hil'),JdS (Nat.le_of_lt hil'),hit'];have hme:=hall i hil';rw [show (l.map zi)[i]=zi l[i] by simp] at hme
   constructor
   ·rintro ⟨j,hj,hji,hjj⟩
    have hjx:=hall j hj;have:=(JlV hjx.1 hme.1 hjx.2 hme.2).1 hjj;exact ⟨j,hji,by rw [Z5 hj];exact this⟩
   ·rintro ⟨j,hji,hjj⟩
    have hj:j < (l.map zi).length:=by omega
    have hjx:=hall j hj;rw [Z5 hj] at hjj;exact ⟨j,hj,hji,(JlV hjx.1 hme.1 hjx.2 hme.2).2 hjj⟩
  have hsn:(l.map zi).take (i+1)=(l.map zi).take i++[zi l[i]]:=by rw [List.take_succ_eq_append_getElem hil'];simp
  have T2:(∀ y,((l.map zi).take i).find? (fun y=>decide (y.k=(zi l[i]).k))=some y→y.r.ttl=l[i].ttl)→ ∀ k,Q8 (Z4 lt (Jq l[i].o,l[i].t) l[i].ttl) k=(((l.map zi).take (i+1)).find? fun y=>decide (y.k=k)).map fun y=>y.r.ttl:=fun hy k=>by
   rw [JaI,hsn,List.find?_append,t2];by_cases hk:(Jq l[i].o,l[i].t)=k
   ·subst hk
    rw [if_pos rfl];cases hF:((l.map zi).take i).find? fun y=>decide (y.k=(Jq l[i].o,l[i].t)) with
    | some y=>have:=hy y hF;simp [this]
    | none=>simp [zi]
   ·rw [if_neg hk]
    have hk': ¬ (zi l[i]).k=k:=hk;cases hF:((l.map zi).take i).find? fun y=>decide (y.k=k) with
    | some y=>rfl
    | none=>simp only [Option.none_or,List.find?_cons,List.find?_nil,decide_eq_false hk']
  have S2: ∀ (ls':List (List UInt8×Bool)),(∀ s,Q8 ls' s=if s=idZ (zi l[i]) then some true else Q8 ls s)→ ∀ s,Q8 ls' s=if s∈((l.map zi).take (i+1)).map idZ then some true else none:=fun ls' h s=>by
   rw [h,s2,hsn,List.map_append];by_cases e1:s=idZ (zi l[i])
   ·rw [if_pos e1,if_pos (by rw [e1];simp)]
   ·rw [if_neg e1]
    by_cases e2:s∈((l.map zi).take i).map idZ
    ·rw [if_pos e2,if_pos (List.mem_append_left _ e2)]
    ·rw [if_neg e2,if_neg (by rw [List.mem_append,not_or];exact ⟨e2,by simpa using e1⟩)]
  obtain ⟨c1,c2,c3⟩:=JsD s12 (idZ (zi l[i])) true (v:= .b true) rfl;generalize hH3:H2.set (H.n+1) (.map true (JaM kS AV.b (Z4 ls (idZ (zi l[i])) true)))=H3 at c3;have n3:H3.n=H'.n:=by subst hH3;exact n2
  have at3: ∀ j,j≠H.n+1→H3.at' j=H2.at' j:=fun j hj=>by subst hH3;exact XQ hj
  have s13:H3.at' (H.n+1)= .map true (JaM kS .b (Z4 ls (idZ (zi l[i])) true)):=by subst hH3;exact Z9
  have e3:Ext H H3:=by subst hH3;exact e2.set (by omega)
  have kp3:Mn H3 1 o (Jdn ((List.range i).filter fun i=> !WN (l.map zi) i)):=kp2.fr (by omega) fun j hj=>at3 j (by have:=hid j hj;omega)
  obtain ⟨p1,o',H4,p2,p3,p4,p5,p6,p7,-,-⟩:=Mn.ap (by':=8) kp3 (Qk (t:=166) (g:=g+2) (z:=1) (x:= .i .i64 (i:Nat)) (L:=[⟨15,g+1,0,[.ag [.s (Jq l[i].o),.i .i64 l[i].t]]⟩,⟨14,g,0,[.ag [.s l[i].o,.i .i64 l[i].t,.i .i64 l[i].c,.i .i64 l[i].ttl,.s l[i].d]]⟩,⟨4,0,0,[.ag [.s [],.ns]]⟩]) (H:=H3)) (by
   have:((List.range i).filter fun i=> !WN (l.map zi) i).length≤i:=Nat.le_trans (List.length_filter_le _ _) (by simp)
   simp;omega)
  have oo:=kp3.sl.out
  have rflt:((List.range (i+1)).filter fun i=> !WN (l.map zi) i)=if WN (l.map zi) i=true then ((List.range i).filter fun i=> !WN (l.map zi) i) else ((List.range i).filter fun i=> !WN (l.map zi) i)++[i]:=by
   rw [List.range_succ,List.filter_append];cases h:WN (l.map zi) i<;>simp [h]
  rw [hidz] at b2 b3 c2 c3;cases hF:((l.map zi).take i).find? fun y=>decide (y.k=(zi l[i]).k) with
  | some y=>
   rw [hF] at k4 u3;simp only [Option.map_some] at k4 u3;by_cases hyt:y.r.ttl=l[i].ttl
   ·rw [hyt] at u3
    have hmx:JaZ (l.map zi) i=false:=by rw [k4,hyt];simp
    cases hout:WN (l.map zi) i with
    | true=>
     rw [if_pos (by rw [←hidz];exact hinm.2 hout)] at b3
     simp only [Option.map_some] at b3;simp -implicitDefEqProofs only [bU,Jc,reduceCtorEq,Ja,Jb,bT,bV,Ja,Jb,Jg,Qs,J6,q0,q1,q4,q10,q11,q12,q114,q115,q116,h1,hL0,hz0,Jj,z,c,rc,rv,k1,u1,u2,u3,lkV,m1,m3,hp16,hD2,hlen,hlen1,b1,b2,b3,JG,JH,w9]
     exact ⟨_,bd,i+1,o,H2,_,_,hil,rfl,rfl,rfl,rfl,rfl,⟨e2,by omega,⟨_,t12,T2 (fun y' h=>by rw [hF] at h;injection h with h;rw [←h];exact hyt)⟩,⟨_,s12,S2 ls fun s=>by
      by_cases e:s=idZ (zi l[i])
      ·rw [if_pos e,s2,e,if_pos (hinm.2 hout)]
      ·rw [if_neg e]⟩,by rw [rflt,if_pos hout];exact kp2,hid⟩,nxm hmx⟩
    | false=>
     rw [if_neg (by rw [←hidz];exact fun h=>by have:=hinm.1 h;rw [hout] at this;cases this)] at b3
     simp only [Option.map_none] at b3;simp -implicitDefEqProofs only [bU,Jc,reduceCtorEq,Ja,Jb,bT,bV,Ja,Jb,Jg,Qs,J6,q0,q1,q4,q10,q11,q12,q114,q115,q116,h1,hL0,hz0,Jj,z,c,rc,rv,k1,u1,u2,u3,lkV,m1,m3,hp16,hD2,hlen,hlen1,b1,b2,b3,c1,c3,JG,JH,JE,JQ,List.replicate];simp -implicitDefEqProofs only [bU,p1,p2,p3,w9]
     refine ⟨_,bd,i+1,o',H4,_,_,hil,rfl,rfl,rfl,rfl,rfl,⟨⟨by have:=e3.n;omega,fun j hj=>by rw [p6 j (by have:=e3.n;omega) fun hh=>by have:=hid j hh;omega];exact e3.at' j hj⟩,by omega,⟨_,by rw [p6 _ (by omega) fun hh=>by have:=hid _ hh;omega,at3 _ (by omega)];exact t12,T2 (fun y' h=>by rw [hF] at h;injection h with h;rw [←h];exact hyt)⟩,⟨_,by rw [p6 _ (by omega) fun hh=>by have:=hid _ hh;omega];exact s13,S2 _ fun s=>by
      rw [JaI];by_cases e:s=idZ (zi l[i])
      ·rw [if_pos e,if_pos e.symm]
      ·rw [if_neg e,if_neg fun h=>e h.symm]⟩,by rw [rflt,if_neg (by rw [hout];decide)];show Mn H4 1 o' _;rw [Jdn,List.map_append];exact p4,fun j hj=>(p7 j hj).elim (hid j) fun h=>by omega⟩,nxm hmx⟩
   ·have hmx:JaZ (l.map zi) i=true:=by rw [k4];simp [hyt]
    have hfx:JL l.length (JaZ (l.map zi))=some i:=Ym hil hmx hp;simp -implicitDefEqProofs only [bU,Jc,reduceCtorEq,Ja,Jb,bT,bV,Ja,Jb,Jg,Qs,J6,q0,q1,q4,q10,q11,q12,q114,q115,q116,h1,hL0,hz0,Jj,z,c,rc,rv,k1,u1,u2,u3,lkV,hyt,JG,JH];exact hit i _ _ _ _ hfx he rfl rfl rfl rfl
  | none=>
   rw [hF] at k4 u3;simp only [Option.map_none] at k4 u3;cases hout:WN (l.map zi) i with
   | true=>
    rw [if_pos (by rw [←hidz];exact hinm.2 hout)] at b3
    simp only [Option.map_some] at b3;simp -implicitDefEqProofs only [bU,Jc,reduceCtorEq,Ja,Jb,bT,bV,Ja,Jb,Jg,Qs,J6,q0,q1,q4,q10,q11,q12,q114,q115,q116,h1,hL0,hz0,Jj,z,c,rc,rv,u1,u2,u3,lkV,k1,m1,m3,hp16,hD2,hlen,hlen1,b1,b2,b3,JG,JH,w9]
    exact ⟨_,bd,i+1,o,H2,_,_,hil,rfl,rfl,rfl,rfl,rfl,⟨e2,by omega,⟨_,t12,T2 (fun y' h=>by rw [hF] at h;cases h)⟩,⟨_,s12,S2 ls fun s=>by
     by_cases e:s=idZ (zi l[i])
     ·rw [if_pos e,s2,e,if_pos (hinm.2 hout)]
     ·rw [if_neg e]⟩,by rw [rflt,if_pos hout];exact kp2,hid⟩,nxm k4⟩
   | false=>
    rw [if_neg (by rw [←hidz];exact fun h=>by have:=hinm.1 h;rw [hout] at this;cases this)] at b3
    simp only [Option.map_none] at b3;simp -implicitDefEqProofs only [bU,Jc,reduceCtorEq,Ja,Jb,bT,bV,Ja,Jb,Jg,Qs,J6,q0,q1,q4,q10,q11,q12,q114,q115,q116,h1,hL0,hz0,Jj,z,c,rc,rv,u1,u2,u3,lkV,k1,m1,m3,hp16,hD2,hlen,hlen1,b1,b2,b3,c1,c3,JG,JH,JE,JQ,List.replicate];simp -implicitDefEqProofs only [bU,p1,p2,p3,w9]
    refine ⟨_,bd,i+1,o',H4,_,_,hil,rfl,rfl,rfl,rfl,rfl,⟨⟨by have:=e3.n;omega,fun j hj=>by rw [p6 j (by have:=e3.n;omega) fun hh=>by have:=hid j hh;omega];exact e3.at' j hj⟩,by omega,⟨_,by rw [p6 _ (by omega) fun hh=>by have:=hid _ hh;omega,at3 _ (by omega)];exact t12,T2 (fun y' h=>by rw [hF] at h;cases h)⟩,⟨_,by rw [p6 _ (by omega) fun hh=>by have:=hid _ hh;omega];exact s13,S2 _ fun s=>by
     rw [JaI];by_cases e:s=idZ (zi l[i])
     ·rw [if_pos e,if_pos e.symm]
     ·rw [if_neg e,if_neg fun h=>e h.symm]⟩,by rw [rflt,if_neg (by rw [hout];decide)];show Mn H4 1 o' _;rw [Jdn,List.map_append];exact p4,fun j hj=>(p7 j hj).elim (hid j) fun h=>by omega⟩,nxm k4⟩
 ·have hil:i=l.length:=by omega
  subst hil;have hno:=Yn hp;simp -implicitDefEqProofs only [bU,Jc,reduceCtorEq,bT,q0,q1,q4,q10,q11,q12,q114,q115,q116,h1,hL0];exact miss hno _ _ _ o he hn2 (by unfold Jn;rw [hZl];exact hkp) hid (by simp -implicitDefEqProofs only [bU,reduceCtorEq,bT]) (by simp -implicitDefEqProofs only [bU,Jc,reduceCtorEq,bT]) (by simp -implicitDefEqProofs only [bU,Jc,reduceCtorEq,bT]) (by simp -implicitDefEqProofs only [bU,Jc,reduceCtorEq,bT])
end
theorem JjG {H:AH} {o:AV} {K:List Nat} (h:Sl H 1 o (Jdn K)) {j:Nat} (hj:j < K.length):slZ H 1 o∧iaC (j:Int) o∧(∀ (L:List Lv) (g:Nat),ldC ⟨L,g,H⟩ none (iaV j o))∧ ∀ (L:List Lv) (g:Nat),ldX ⟨L,g,H⟩ none (iaV j o)= .i .i64 (K[j]:Nat):=by
 have hg:(Jdn K).getD j .u= .i .i64 (K[j]:Nat):=by simp [Jdn,List.getD,hj]
 have ia:=fun (L:List Lv) (g:Nat)=>h.ia1 (j:=j) (v:= .i .i64 (K[j]:Nat)) (by omega) (by simp [Jdn];omega) (by rw [Jj,hg];rfl) L g
 rw [Jj] at ia;exact ⟨(ia [] 0).1,(ia [] 0).2.1,fun L g=>(ia L g).2.2.1,fun L g=>(ia L g).2.2.2⟩
theorem Jfu {H:AH} {o:AV} {K:List Nat} (h:Sl H 1 o (Jdn K)):Jhx o= .i .i64 (K.length:Nat)∧JlE o:=by
 have:=h.len;rwa [List.length_map] at this
structure KK (l:List Rr) (apex:List UInt8) (H:AH) (a o:AV):Prop where
 rd:Sx H eR a l
 kp:Sl H 1 o (Jdn (Jn (l.map zi)))
 ln:l.length≤500
 sz:szL l
 one: ∀ i,i < l.length→Jai (l.getD i rrZ) apex=0
theorem KK.get {l:List Rr} {apex:List UInt8} {H:AH} {a o:AV} (h:KK l apex H a o) {j:Nat} (hj:j < (Jn (l.map zi)).length): ∃ hi:(Jn (l.map zi))[j] < l.length,WN (l.map zi) (Jn (l.map zi))[j]=false∧itZ (l.map zi) (Jn (l.map zi))[j]=zi (l[(Jn (l.map zi))[j]])∧Jai (l[(Jn (l.map zi))[j]]) apex=0∧
  (l[(Jn (l.map zi))[j]]).o.length≤1099511627776∧(l[(Jn (l.map zi))[j]]).d.length≤1099511627776:=by
 obtain ⟨h1,h2⟩:=Jjx hj;have h1':(Jn (l.map zi))[j] < l.length:=by rw [List.length_map] at h1;exact h1
 have ho:=h.one _ h1';obtain ⟨s1,s2⟩:=h.sz _ (List.getElem_mem h1');refine ⟨h1',h2,by rw [Z5 h1];simp,?_,s1,s2⟩
 rwa [show l.getD (Jn (l.map zi))[j] rrZ=l[(Jn (l.map zi))[j]] by simp [List.getD,h1']] at ho
theorem Jad {l:List Rr}:(Jn (l.map zi)).length≤l.length:=by
 unfold Jn;exact Nat.le_trans (List.length_filter_le _ _) (by simp)
section
variable {C:Tab} {l:List Rr} {a o:AV} {apex top:List UInt8} {H:AH} {e:Env} {L0:List Lv} {g:Nat} {κ:Jaa}
set_option maxHeartbeats 4000000 in
theorem Jui (hK:KK l apex H a o) (hLow:Ja1 C Qc)
  (q0:look e 0=a) (q1:look e 1= .s apex) (q4:look e 4= .la 4 0 0 0) (q12:look e 12=o) (q19:look e 19= .s top) (q20:look e 20= .b false) (q21:look e 21= .b false) (hL0:JJ [0,1,4,12,19,20,21,171,172,173] L0=[⟨4,0,0,[z0V]⟩])
  (hit: ∀ i e' L' g',(Jn (l.map zi)).find? (Jb6 (l.map zi) top)=some i→Qx L' 4 0 0=some [z0V]→look e' 4= .la 4 0 0 0→look e' 5= .i .i64 20→look e' 6= .i .i64 (i:Nat)→κ .rt e' ⟨L',g',H⟩)
  (miss:(Jn (l.map zi)).find? (Jb6 (l.map zi) top)=none→ ∀ e' g',look e' 0=a→look e' 1= .s apex→look e' 4= .la 4 0 0 0→look e' 12=o→look e' 20= .b (hasB (l.map zi) (l.map zi).length top 6)→look e' 21= .b (hasB (l.map zi) (l.map zi).length top 2)→κ .nx e' ⟨[⟨4,0,0,[z0V]⟩],g',H⟩):
  exec C (sAt Jk.s [1,1,1,1,1,1,1,1,1,1,0]) e ⟨L0,g,H⟩ κ:=by
 simp only [Jk,sAt];obtain ⟨l1,l2⟩:=Jfu hK.kp;have hks:=Jad (l:=l);have hln:=hK.ln;simp -implicitDefEqProofs only [bU,bT,q12,l1,l2]
 refine Jl (fun m e M=> ∃ (j:Nat) (L0:List Lv) (g:Nat),j≤(Jn (l.map zi)).length∧m=(Jn (l.map zi)).length-j∧look e 0=a∧look e 1= .s apex∧look e 4= .la 4 0 0 0∧look e 12=o∧look e 171=o∧look e 172= .i .i64 (Jn (l.map zi)).length∧look e 173= .i .i64 j∧M=⟨L0,g,H⟩∧JJ [0,1,4,12,19,20,21,171,172,173] L0=[⟨4,0,0,[z0V]⟩]∧(∀ i (hi:i < (Jn (l.map zi)).length),i < j→Jb6 (l.map zi) top (Jn (l.map zi))[i]=false)∧look e 19= .s top∧look e 20= .b (((Jn (l.map zi)).take j).any fun i=>decide ((itZ (l.map zi) i).f=top∧(itZ (l.map zi) i).r.t=6))∧look e 21= .b (((Jn (l.map zi)).take j).any fun i=>decide ((itZ (l.map zi) i).f=top∧(itZ (l.map zi) i).r.t=2))) ?_ (n:=(Jn (l.map zi)).length)
  ⟨0,_,_,by omega,by omega,by simp -implicitDefEqProofs only [bU,reduceCtorEq,bT,q0],by simp -implicitDefEqProofs only [bU,Jc,bT,q1],by simp -implicitDefEqProofs only [bU,Jc,bT,q4],by simp -implicitDefEqProofs only [bU,Jc,bT,q12],rfl,rfl,rfl,rfl,hL0,fun i _ hj=>by omega,by simp -implicitDefEqProofs only [bU,Jc,bT,q19],by simp -implicitDefEqProofs only [bU,Jc,bT,q20];rfl,by simp -implicitDefEqProofs only [bU,Jc,bT,q21];rfl⟩
 clear q0 q1 q4 q12 hL0 q19 q20 q21;rintro m e M ⟨j,L0,g,hj,rfl,q0,q1,q4,q12,qs,ql,qx,rfl,hL0,hp,q19,q20,q21⟩;by_cases h1:(j:Int) < (Jn (l.map zi)).length
 ·have hjl:j < (Jn (l.map zi)).length:=by omega
  obtain ⟨hi,hout,hit0,hone,z1,z2⟩:=hK.get hjl;obtain ⟨a1,a2,a3,a4⟩:=JjG hK.kp hjl;obtain ⟨z,c,f0,rc,rv,ld,v0,v1,v2,v3,v4⟩:=JgI hK.rd hi;have hfa:=fun h=>JcX (q:=Jb6 (l.map zi) top) hjl h fun i hi=>hp i (by omega) hi
  have hha:=fun (f:List UInt8) (t:Int)=>JgU (L:=l.map zi) hjl f t
  have hts:=fun (p:Nat→Bool)=>any_take_succ hjl p
  have bd:(Jn (l.map zi)).length- (j+1) < (Jn (l.map zi)).length-j:=by omega
  have w9:IntKind.i64.wrap ((j:Int)+1)=((j+1:Nat):Int):=by rw [w64 (by omega) (by omega)];rfl
  have hz0:z0V= .ag [.s [],.ns]:=rfl
  have nx:Jb6 (l.map zi) top (Jn (l.map zi))[j]=false→ ∀ i (hi:i < (Jn (l.map zi)).length),i < j+1→Jb6 (l.map zi) top (Jn (l.map zi))[i]=false:=fun h i hi hij=>by
   by_cases e:i=j
   ·subst e;exact h
   ·exact hp i hi (by omega)
  generalize hii:(Jn (l.map zi))[j]=i at*;have hp0:(0:Int)≤(i:Nat):=by omega
  rw [JcE] at rv;obtain ⟨⟨ls,hn⟩,hcl,htt,hme,hty,hch,hun⟩:=Ze hone;have hfz:(zi l[i]).f=Jq l[i].o:=rfl;have htz:(zi l[i]).r.t=l[i].t:=rfl;have k1:=hLow l[i].o H z1;rw [←Xh hn] at k1
  have hb:Jb6 (l.map zi) top i=(decide (l[i].t=6) && (decide (Jq l[i].o≠top) || ((Jn (l.map zi)).take j).any fun i=>decide ((itZ (l.map zi) i).f=top∧(itZ (l.map zi) i).r.t=6))):=by
   unfold Jb6;rw [hout,hit0,hha];rfl
  have hS:=hts fun i=>decide ((itZ (l.map zi) i).f=top∧(itZ (l.map zi) i).r.t=6)
  have hN:=hts fun i=>decide ((itZ (l.map zi) i).f=top∧(itZ (l.map zi) i).r.t=2)
  simp only [hit0,hfz,htz] at hS hN;generalize ((Jn (l.map zi)).take j).any (fun i=>decide ((itZ (l.map zi) i).f=top∧(itZ (l.map zi) i).r.t=6))=sB at*
  generalize ((Jn (l.map zi)).take j).any (fun i=>decide ((itZ (l.map zi) i).f=top∧(itZ (l.map zi) i).r.t=2))=nB at*
  by_cases h6:l[i].t=6
  ·have h6':(l[i].t=6)=True:=eq_true h6
   have h62: ¬ l[i].t=2:=by omega
   by_cases hf:Jq l[i].o=top
   ·have hf':(Jq l[i].o=top)=True:=eq_true hf
    cases sB with
    | true=>
     simp -implicitDefEqProofs only [bU,Jc,reduceCtorEq,Ja,Jb,bT,bV,Ja,Jb,q0,q1,q4,q12,qs,ql,qx,h1,hL0,hz0,Jj,a1,a2,a3,a4,z,c,rc,rv,q19,q20,q21,k1,h6',hf',JG,JH];exact hit i _ _ _ (hfa (by rw [hb,h6];simp)) rfl rfl rfl rfl
    | false=>
     have hS':(((Jn (l.map zi)).take (j+1)).any fun i=>decide ((itZ (l.map zi) i).f=top∧(itZ (l.map zi) i).r.t=6))=true:=by rw [hS];simp [hf,h6]
     have hN':(((Jn (l.map zi)).take (j+1)).any fun i=>decide ((itZ (l.map zi) i).f=top∧(itZ (l.map zi) i).r.t=2))=nB:=by rw [hN];simp [h62]
     cases nB with
     | true=>
      simp -implicitDefEqProofs only [bU,Jc,reduceCtorEq,Ja,Jb,bT,bV,Ja,Jb,q0,q1,q4,q12,qs,ql,qx,h1,hL0,hz0,Jj,a1,a2,a3,a4,z,c,rc,rv,q19,q20,q21,k1,h6',hf',w9];exact ⟨_,bd,j+1,_,_,hjl,rfl,rfl,rfl,rfl,nx (by rw [hb,h6,hf];simp),by rw [hS'],by rw [hN']⟩
     | false=>
      simp -implicitDefEqProofs only [bU,Jc,reduceCtorEq,Ja,Jb,bT,bV,Ja,Jb,q0,q1,q4,q12,qs,ql,qx,h1,hL0,hz0,Jj,a1,a2,a3,a4,z,c,rc,rv,q19,q20,q21,k1,h6',h62,hf',w9];exact ⟨_,bd,j+1,_,_,hjl,rfl,rfl,rfl,rfl,nx (by rw [hb,h6,hf];simp),by rw [hS'],by rw [hN']⟩
   ·simp -implicitDefEqProofs only [bU,Jc,reduceCtorEq,Ja,Jb,bT,bV,Ja,Jb,q0,q1,q4,q12,qs,ql,qx,h1,hL0,hz0,Jj,a1,a2,a3,a4,z,c,rc,rv,q19,q20,q21,k1,h6',hf,JG,JH]
    exact hit i _ _ _ (hfa (by rw [hb,h6];simp [hf])) rfl rfl rfl rfl
  ·have hS':(((Jn (l.map zi)).take (j+1)).any fun i=>decide ((itZ (l.map zi) i).f=top∧(itZ (l.map zi) i).r.t=6))=sB:=by rw [hS];simp [h6]
   have hnb:Jb6 (l.map zi) top i=false:=by rw [hb];simp [h6]
   cases nB with
   | true=>
    simp -implicitDefEqProofs only [bU,Jc,reduceCtorEq,Ja,Jb,bT,bV,Ja,Jb,q0,q1,q4,q12,qs,ql,qx,h1,hL0,hz0,Jj,a1,a2,a3,a4,z,c,rc,rv,q19,q20,q21,h6,w9];exact ⟨_,bd,j+1,_,_,hjl,rfl,rfl,rfl,rfl,nx hnb,by rw [hS'],by rw [hN];simp⟩
   | false=>
    by_cases h2:l[i].t=2
    ·have h2':(l[i].t=2)=True:=eq_true h2
     by_cases hf:Jq l[i].o=top
     ·have hf':(Jq l[i].o=top)=True:=eq_true hf
      simp -implicitDefEqProofs only [bU,Jc,reduceCtorEq,Ja,Jb,bT,bV,Ja,Jb,q0,q1,q4,q12,qs,ql,qx,h1,hL0,hz0,Jj,a1,a2,a3,a4,z,c,rc,rv,q19,q20,q21,k1,h6,h2',hf',w9];exact ⟨_,bd,j+1,_,_,hjl,rfl,rfl,rfl,rfl,nx hnb,by rw [hS'],by rw [hN];simp [h2,hf]⟩
     ·simp -implicitDefEqProofs only [bU,Jc,reduceCtorEq,Ja,Jb,bT,bV,Ja,Jb,q0,q1,q4,q12,qs,ql,qx,h1,hL0,hz0,Jj,a1,a2,a3,a4,z,c,rc,rv,q19,q20,q21,k1,h6,h2',hf,w9]
      exact ⟨_,bd,j+1,_,_,hjl,rfl,rfl,rfl,rfl,nx hnb,by rw [hS'],by rw [hN];simp [hf]⟩
    ·simp -implicitDefEqProofs only [bU,Jc,reduceCtorEq,Ja,Jb,bT,bV,Ja,Jb,q0,q1,q4,q12,qs,ql,qx,h1,hL0,hz0,Jj,a1,a2,a3,a4,z,c,rc,rv,q19,q20,q21,h6,h2,w9]
     exact ⟨_,bd,j+1,_,_,hjl,rfl,rfl,rfl,rfl,nx hnb,by rw [hS'],by rw [hN];simp [h2]⟩
 ·have hil:j=(Jn (l.map zi)).length:=by omega
  subst hil;have hno:=JcV (q:=Jb6 (l.map zi) top) fun i hi=>hp i hi hi
  rw [List.take_length,←JdD] at q20 q21;simp -implicitDefEqProofs only [bU,Jc,reduceCtorEq,bT,q0,q1,q4,q12,qs,ql,qx,q19,q20,q21,h1,hL0];exact miss hno _ _ (by simp -implicitDefEqProofs only [bU,reduceCtorEq,bT]) (by simp -implicitDefEqProofs only [bU,Jc,reduceCtorEq,bT]) (by simp -implicitDefEqProofs only [bU,Jc,reduceCtorEq,bT]) (by simp -implicitDefEqProofs only [bU,Jc,reduceCtorEq,bT]) (by simp -implicitDefEqProofs only [bU,Jc,reduceCtorEq,bT]) (by simp -implicitDefEqProofs only [bU,Jc,reduceCtorEq,bT])
end
theorem KK.ext {l:List Rr} {apex:List UInt8} {H H':AH} {a o:AV} (h:KK l apex H a o) (he:Ext H H'):KK l apex H' a o:=⟨Sl.ext h.rd he,Sl.ext h.kp he,h.ln,h.sz,h.one⟩
theorem JuE {b:UInt8}:low b=42↔b=42:=by
 unfold low;by_cases h:65≤b.toNat∧b.toNat≤90
 ·rw [if_pos h]
  have e:(b+32).toNat=b.toNat+32:=by rw [UInt8.toNat_add];show (b.toNat+32) % 256=_;omega
  constructor
  ·intro h2
   have:=congrArg UInt8.toNat h2;rw [e] at this;have h42:(42:UInt8).toNat=42:=rfl;omega
  ·intro h2
   subst h2;have h42:(42:UInt8).toNat=42:=rfl;omega
 ·rw [if_neg h]
theorem JmH {s:List UInt8} {ls:List (List UInt8)} (h:JB s=some ls):Jh7 (Jq s)=decide (ls.head?=some [42]):=by
 rw [Zd h];cases ls with
 | nil=>rfl
 | cons x r=>
  have hx:=(Q9 h).1 x (by simp)
  unfold Jh7;rw [Bool.eq_iff_iff];simp only [decide_eq_true_eq,List.map_cons,joinL,joinP,List.head?_cons,Option.some.injEq,List.cons_append,List.length_cons,List.length_append];constructor
  ·rintro ⟨-,h2⟩
   match x,hx with
   | [],hx=>simp at hx
   | [b],_=>simp [Zz,JuE] at h2;rw [h2]
   | b::c::t,hx=>
    simp only [Zz,List.map_cons,List.length_cons,List.length_map,List.cons_append,List.take_succ_cons,List.take_zero,List.cons.injEq] at h2;have:=congrArg UInt8.toNat h2.1;simp only [List.length_cons] at hx;simp at this;omega
  ·intro h2
   subst h2;refine ⟨by simp,?_⟩
   rfl
section
variable {C:Tab} {l:List Rr} {a o:AV} {apex top:List UInt8} {H H1:AH} {e:Env} {L0:List Lv} {g:Nat} {κ:Jaa}
set_option maxHeartbeats 4000000 in
theorem JuP (hK:KK l apex H a o) (hLab:JdA C Yy)
  (he1:Ext H H1) (q0:look e 0=a) (q1:look e 1= .s apex) (q4:look e 4= .la 4 0 0 0) (q12:look e 12=o) (hL0:JJ [0,1,4,12,214,215,216] L0=[⟨4,0,0,[z0V]⟩])
  (hit: ∀ i e' L' g' H',(Jn (l.map zi)).find? (YU (l.map zi))=some i→Ext H H'→Qx L' 4 0 0=some [z0V]→look e' 4= .la 4 0 0 0→look e' 5= .i .i64 26→look e' 6= .i .i64 (i:Nat)→κ .rt e' ⟨L',g',H'⟩)
  (miss:(Jn (l.map zi)).find? (YU (l.map zi))=none→ ∀ e' g' H',Ext H H'→look e' 0=a→look e' 1= .s apex→look e' 4= .la 4 0 0 0→look e' 12=o→κ .nx e' ⟨[⟨4,0,0,[z0V]⟩],g',H'⟩):
  exec C (sAt Jk.s [1,1,1,1,1,1,1,1,1,1,1,1,1,0]) e ⟨L0,g,H1⟩ κ:=by
 simp only [Jk,sAt];obtain ⟨l1,l2⟩:=Jfu hK.kp;have hks:=Jad (l:=l);have hln:=hK.ln;simp -implicitDefEqProofs only [bU,bT,q12,l1,l2]
 refine Jl (fun m e M=> ∃ (j:Nat) (L0:List Lv) (g:Nat) (H':AH),j≤(Jn (l.map zi)).length∧m=(Jn (l.map zi)).length-j∧look e 0=a∧look e 1= .s apex∧look e 4= .la 4 0 0 0∧look e 12=o∧look e 214=o∧look e 215= .i .i64 (Jn (l.map zi)).length∧look e 216= .i .i64 j∧M=⟨L0,g,H'⟩∧JJ [0,1,4,12,214,215,216] L0=[⟨4,0,0,[z0V]⟩]∧Ext H H'∧(∀ i (hi:i < (Jn (l.map zi)).length),i < j→YU (l.map zi) (Jn (l.map zi))[i]=false)) ?_ (n:=(Jn (l.map zi)).length)
  ⟨0,_,_,H1,by omega,by omega,by simp -implicitDefEqProofs only [bU,reduceCtorEq,bT,q0],by simp -implicitDefEqProofs only [bU,Jc,bT,q1],by simp -implicitDefEqProofs only [bU,Jc,bT,q4],by simp -implicitDefEqProofs only [bU,Jc,bT,q12],rfl,rfl,rfl,rfl,hL0,he1,fun i _ hj=>by omega⟩
 clear q0 q1 q4 q12 hL0 he1;rintro m e M ⟨j,L0,g,H',hj,rfl,q0,q1,q4,q12,qs,ql,qx,rfl,hL0,he,hp⟩;have hKe:=hK.ext he;by_cases h1:(j:Int) < (Jn (l.map zi)).length
 ·have hjl:j < (Jn (l.map zi)).length:=by omega
  obtain ⟨hi,hout,hit0,hone,z1,z2⟩:=hK.get hjl;obtain ⟨a1,a2,a3,a4⟩:=JjG hKe.kp hjl;obtain ⟨z,c,f0,rc,rv,ld,v0,v1,v2,v3,v4⟩:=JgI hKe.rd hi;have hfa:=fun h=>JcX (q:=YU (l.map zi)) hjl h fun i hi=>hp i (by omega) hi
  have hha:=fun (f:List UInt8) (t:Int)=>JgU (L:=l.map zi) hjl f t
  have hts:=fun (p:Nat→Bool)=>any_take_succ hjl p
  have bd:(Jn (l.map zi)).length- (j+1) < (Jn (l.map zi)).length-j:=by omega
  have w9:IntKind.i64.wrap ((j:Int)+1)=((j+1:Nat):Int):=by rw [w64 (by omega) (by omega)];rfl
  have hz0:z0V= .ag [.s [],.ns]:=rfl
  have nx:YU (l.map zi) (Jn (l.map zi))[j]=false→ ∀ i (hi:i < (Jn (l.map zi)).length),i < j+1→YU (l.map zi) (Jn (l.map zi))[i]=false:=fun h i hi hij=>by
   by_cases e:i=j
   ·subst e;exact h
   ·exact hp i hi (by omega)
  generalize hii:(Jn (l.map zi))[j]=i at*;have hp0:(0:Int)≤(i:Nat):=by omega
  rw [JcE] at rv;obtain ⟨⟨ls,hn⟩,hcl,htt,hme,hty,hch,hun⟩:=Ze hone;have hfz:(zi l[i]).f=Jq l[i].o:=rfl;have htz:(zi l[i]).r.t=l[i].t:=rfl;obtain ⟨v,H2,k1,e2,m2,i2⟩:=hLab l[i].o H' z1;rw [hn] at m2;simp only [Option.getD_some] at m2;obtain ⟨n1,n2⟩:=m2.sl.len;rw [List.length_map] at n1;have hst:=JmH hn
  have hb:YU (l.map zi) i=(decide (ls.head?=some [42]) &&decide (l[i].t=2∨l[i].t=39)):=by
   unfold YU;rw [hout,hit0,hfz,hst,htz];rfl
  by_cases ht:l[i].t=2∨l[i].t=39
  ·have c2:(l[i].t=2)=True∨((l[i].t=2)=False∧(l[i].t=39)=True):=by
    by_cases h2:l[i].t=2
    ·exact .inl (eq_true h2)
    ·exact .inr ⟨eq_false h2,eq_true (ht.resolve_left h2)⟩
   cases hls:ls with
   | nil=>
    rw [hls] at n1;have n1':Jhx v= .i .i64 0:=n1;have hw:YU (l.map zi) i=false:=by rw [hb,hls];rfl
    rcases c2 with c2 | ⟨c2,c3⟩
    ·simp -implicitDefEqProofs only [bU,Jc,reduceCtorEq,Ja,Jb,bT,bV,Ja,Jb,q0,q1,q4,q12,qs,ql,qx,h1,hL0,hz0,Jj,a1,a2,a3,a4,z,c,rc,rv,k1,n1',n2,c2,Ji,w9]
     exact ⟨_,bd,j+1,_,_,H2,hjl,rfl,rfl,rfl,rfl,he.trans e2,nx hw⟩
    ·simp -implicitDefEqProofs only [bU,Jc,reduceCtorEq,Ja,Jb,bT,bV,Ja,Jb,q0,q1,q4,q12,qs,ql,qx,h1,hL0,hz0,Jj,a1,a2,a3,a4,z,c,rc,rv,k1,n1',n2,c2,c3,Ji,w9]
     exact ⟨_,bd,j+1,_,_,H2,hjl,rfl,rfl,rfl,rfl,he.trans e2,nx hw⟩
   | cons x r=>
    rw [hls] at n1 m2;have n3:(0:Int) < ((x::r).length:Nat):=by simp <;>omega
    have hg:((x::r).map AV.s).getD 0 .u= .s x:=rfl;have ia:=fun (L:List Lv) (g:Nat)=>m2.sl.ia1 (j:=0) (v:= .s x) (by omega) (by simp <;>omega) (by rw [Int.toNat_zero,hg];rfl) L g
    rw [Int.toNat_zero] at ia;obtain ⟨y1,y2,-⟩:=ia [] 0;by_cases hx:x=[42]
    ·have hx':(x=[42])=True:=eq_true hx
     have hw:YU (l.map zi) i=true:=by rw [hb,hls,hx];simpa using ht
     rcases c2 with c2 | ⟨c2,c3⟩
     ·simp -implicitDefEqProofs only [bU,Jc,reduceCtorEq,Ja,Jb,bT,bV,Ja,Jb,q0,q1,q4,q12,qs,ql,qx,h1,hL0,hz0,Jj,a1,a2,a3,a4,z,c,rc,rv,k1,n1,n2,n3,c2,y1,y2,ia,hx',Int.toNat_zero,JG,JH]
      exact hit i _ _ _ _ (hfa hw) (he.trans e2) rfl rfl rfl rfl
     ·simp -implicitDefEqProofs only [bU,Jc,reduceCtorEq,Ja,Jb,bT,bV,Ja,Jb,q0,q1,q4,q12,qs,ql,qx,h1,hL0,hz0,Jj,a1,a2,a3,a4,z,c,rc,rv,k1,n1,n2,n3,c2,c3,y1,y2,ia,hx',Int.toNat_zero,JG,JH]
      exact hit i _ _ _ _ (hfa hw) (he.trans e2) rfl rfl rfl rfl
    ·have hw:YU (l.map zi) i=false:=by rw [hb,hls];simp [hx]
     rcases c2 with c2 | ⟨c2,c3⟩
     ·simp -implicitDefEqProofs only [bU,Jc,reduceCtorEq,Ja,Jb,bT,bV,Ja,Jb,q0,q1,q4,q12,qs,ql,qx,h1,hL0,hz0,Jj,a1,a2,a3,a4,z,c,rc,rv,k1,n1,n2,n3,c2,y1,y2,ia,hx,Int.toNat_zero,w9]
      exact ⟨_,bd,j+1,_,_,H2,hjl,rfl,rfl,rfl,rfl,he.trans e2,nx hw⟩
     ·simp -implicitDefEqProofs only [bU,Jc,reduceCtorEq,Ja,Jb,bT,bV,Ja,Jb,q0,q1,q4,q12,qs,ql,qx,h1,hL0,hz0,Jj,a1,a2,a3,a4,z,c,rc,rv,k1,n1,n2,n3,c2,c3,y1,y2,ia,hx,Int.toNat_zero,w9]
      exact ⟨_,bd,j+1,_,_,H2,hjl,rfl,rfl,rfl,rfl,he.trans e2,nx hw⟩
  ·have h2: ¬ l[i].t=2:=fun h=>ht (.inl h)
   have h39: ¬ l[i].t=39:=fun h=>ht (.inr h)
   have hw:YU (l.map zi) i=false:=by rw [hb];simp [h2,h39]
   simp -implicitDefEqProofs only [bU,Jc,reduceCtorEq,Ja,Jb,bT,bV,Ja,Jb,q0,q1,q4,q12,qs,ql,qx,h1,hL0,hz0,Jj,a1,a2,a3,a4,z,c,rc,rv,k1,h2,h39,w9];exact ⟨_,bd,j+1,_,_,H2,hjl,rfl,rfl,rfl,rfl,he.trans e2,nx hw⟩
 ·have hil:j=(Jn (l.map zi)).length:=by omega
  subst hil;have hno:=JcV (q:=YU (l.map zi)) fun i hi=>hp i hi hi
  simp -implicitDefEqProofs only [bU,Jc,reduceCtorEq,bT,q0,q1,q4,q12,qs,ql,qx,h1,hL0];exact miss hno _ _ H' he (by simp -implicitDefEqProofs only [bU,reduceCtorEq,bT]) (by simp -implicitDefEqProofs only [bU,Jc,reduceCtorEq,bT]) (by simp -implicitDefEqProofs only [bU,Jc,reduceCtorEq,bT]) (by simp -implicitDefEqProofs only [bU,Jc,reduceCtorEq,bT])
set_option maxHeartbeats 4000000 in
theorem Ju0 (hK:KK l apex H a o) (hLow:Ja1 C Qc)
  (he1:Ext H H1) (hn1:H.n+1≤H1.n) (hx1:H1.at' H.n= .map true []) (q0:look e 0=a) (q1:look e 1= .s apex) (q4:look e 4= .la 4 0 0 0) (q12:look e 12=o) (q29:look e 29= .mp H.n) (hL0:JJ [0,1,4,12,29,250,251,252] L0=[⟨4,0,0,[z0V]⟩])
  (hit: ∀ i e' L' g' H',(Jn (l.map zi)).find? (YB (l.map zi))=some i→Ext H H'→Qx L' 4 0 0=some [z0V]→look e' 4= .la 4 0 0 0→look e' 5= .i .i64 23→look e' 6= .i .i64 (i:Nat)→κ .rt e' ⟨L',g',H'⟩)
  (miss:(Jn (l.map zi)).find? (YB (l.map zi))=none→ ∀ e' g' H',Ext H H'→H.n+1≤H'.n→(∃ lb:List (Jbj×Bool),H'.at' H.n= .map true (JaM kK .b lb)∧ ∀ k,Q8 lb k=if (k.2=5∨k.2=39)∧((Jn (l.map zi)).any fun i=>decide ((itZ (l.map zi) i).f=k.1∧(itZ (l.map zi) i).r.t=k.2))=true then some true else none)→look e' 0=a→look e' 1= .s apex→look e' 4= .la 4 0 0 0→look e' 12=o→look e' 29= .mp H.n→κ .nx e' ⟨[⟨4,0,0,[z0V]⟩],g',H'⟩):
  exec C (sAt Jk.s [1,1,1,1,1,1,1,1,1,1,1,1,1,1,1,0]) e ⟨L0,g,H1⟩ κ:=by
 simp only [Jk,sAt];obtain ⟨l1,l2⟩:=Jfu hK.kp;have hks:=Jad (l:=l);have hln:=hK.ln;simp -implicitDefEqProofs only [bU,bT,q12,l1,l2]
 refine Jl (fun m e M=> ∃ (j:Nat) (L0:List Lv) (g:Nat) (H':AH),j≤(Jn (l.map zi)).length∧m=(Jn (l.map zi)).length-j∧look e 0=a∧look e 1= .s apex∧look e 4= .la 4 0 0 0∧look e 12=o∧look e 250=o∧look e 251= .i .i64 (Jn (l.map zi)).length∧look e 252= .i .i64 j∧M=⟨L0,g,H'⟩∧JJ [0,1,4,12,29,250,251,252] L0=[⟨4,0,0,[z0V]⟩]∧Ext H H'∧(∀ i (hi:i < (Jn (l.map zi)).length),i < j→YB (l.map zi) (Jn (l.map zi))[i]=false)∧H.n+1≤H'.n∧(∃ lb:List (Jbj×Bool),H'.at' H.n= .map true (JaM kK .b lb)∧ ∀ k,Q8 lb k=if (k.2=5∨k.2=39)∧(((Jn (l.map zi)).take j).any fun i=>decide ((itZ (l.map zi) i).f=k.1∧(itZ (l.map zi) i).r.t=k.2))=true then some true else none)∧look e 29= .mp H.n) ?_ (n:=(Jn (l.map zi)).length)
  ⟨0,_,_,H1,by omega,by omega,by simp -implicitDefEqProofs only [bU,reduceCtorEq,bT,q0],by simp -implicitDefEqProofs only [bU,Jc,bT,q1],by simp -implicitDefEqProofs only [bU,Jc,bT,q4],by simp -implicitDefEqProofs only [bU,Jc,bT,q12],rfl,rfl,rfl,rfl,hL0,he1,fun i _ hj=>by omega,hn1,⟨[],hx1,fun k=>by simp [Q8]⟩,by simp -implicitDefEqProofs only [bU,Jc,bT,q29]⟩
 clear q0 q1 q4 q12 hL0 he1 q29 hn1 hx1;rintro m e M ⟨j,L0,g,H',hj,rfl,q0,q1,q4,q12,qs,ql,qx,rfl,hL0,he,hp,hn1,hx,q29⟩;have hKe:=hK.ext he;by_cases h1:(j:Int) < (Jn (l.map zi)).length
 ·have hjl:j < (Jn (l.map zi)).length:=by omega
  obtain ⟨hi,hout,hit0,hone,z1,z2⟩:=hK.get hjl;obtain ⟨a1,a2,a3,a4⟩:=JjG hKe.kp hjl;obtain ⟨z,c,f0,rc,rv,ld,v0,v1,v2,v3,v4⟩:=JgI hKe.rd hi;have hfa:=fun h=>JcX (q:=YB (l.map zi)) hjl h fun i hi=>hp i (by omega) hi
  have hha:=fun (f:List UInt8) (t:Int)=>JgU (L:=l.map zi) hjl f t
  have hts:=fun (p:Nat→Bool)=>any_take_succ hjl p
  have bd:(Jn (l.map zi)).length- (j+1) < (Jn (l.map zi)).length-j:=by omega
  have w9:IntKind.i64.wrap ((j:Int)+1)=((j+1:Nat):Int):=by rw [w64 (by omega) (by omega)];rfl
  have hz0:z0V= .ag [.s [],.ns]:=rfl
  have nx:YB (l.map zi) (Jn (l.map zi))[j]=false→ ∀ i (hi:i < (Jn (l.map zi)).length),i < j+1→YB (l.map zi) (Jn (l.map zi))[i]=false:=fun h i hi hij=>by
   by_cases e:i=j
   ·subst e;exact h
   ·exact hp i hi (by omega)
  generalize hii:(Jn (l.map zi))[j]=i at*;have hp0:(0:Int)≤(i:Nat):=by omega
  rw [JcE] at rv;obtain ⟨⟨ls,hn⟩,hcl,htt,hme,hty,hch,hun⟩:=Ze hone;have hfz:(zi l[i]).f=Jq l[i].o:=rfl;have htz:(zi l[i]).r.t=l[i].t:=rfl;have k1:=hLow l[i].o H' z1;rw [←Xh hn] at k1
  have hb:YB (l.map zi) i=(decide (l[i].t=5∨l[i].t=39) && ((Jn (l.map zi)).take j).any fun i'=>decide ((itZ (l.map zi) i').f=Jq l[i].o∧(itZ (l.map zi) i').r.t=l[i].t)):=by
   unfold YB;rw [hout,hit0,hha];rfl
  obtain ⟨lb,b1,b2⟩:=hx;obtain ⟨u1,u2,u3⟩:=Jkx b1 (Jq l[i].o) l[i].t;rw [b2] at u3;obtain ⟨m1,m2,m3⟩:=Jpr b1 (Jq l[i].o) l[i].t true (v:= .b true) rfl
  have hnx: ∀ (lb':List (Jbj×Bool)),(∀ k,Q8 lb' k=if (l[i].t=5∨l[i].t=39)∧k=(Jq l[i].o,l[i].t) then some true else Q8 lb k)→ ∀ k,Q8 lb' k=if (k.2=5∨k.2=39)∧(((Jn (l.map zi)).take (j+1)).any fun i=>decide ((itZ (l.map zi) i).f=k.1∧(itZ (l.map zi) i).r.t=k.2))=true then some true else none:=fun lb' h k=>by
   rw [h,b2,hts];simp only [hit0,hfz,htz,Bool.or_eq_true,decide_eq_true_eq];by_cases e1:k=(Jq l[i].o,l[i].t)
   ·subst e1
    simp only [and_self,or_true,and_true];by_cases e2:l[i].t=5∨l[i].t=39
    ·rw [if_pos e2,if_pos e2]
    ·rw [if_neg e2,if_neg (fun hh=>e2 hh.1),if_neg e2]
   ·have e3: ¬ (Jq l[i].o=k.1∧l[i].t=k.2):=fun hh=>e1 (Prod.ext hh.1.symm hh.2.symm)
    rw [if_neg fun hh=>e1 hh.2]
    simp only [e3,or_false]
  have hid:Ext H (H'.set H.n (.map true (JaM kK AV.b (Z4 lb (Jq l[i].o,l[i].t) true)))):=he.set (Nat.le_refl _);by_cases ht:l[i].t=5∨l[i].t=39
  ·have c2:(l[i].t=5)=True∨((l[i].t=5)=False∧(l[i].t=39)=True):=by
    by_cases h2:l[i].t=5
    ·exact .inl (eq_true h2)
    ·exact .inr ⟨eq_false h2,eq_true (ht.resolve_left h2)⟩
   simp only [ht,true_and] at u3;cases hany:((Jn (l.map zi)).take j).any fun i'=>decide ((itZ (l.map zi) i').f=Jq l[i].o∧(itZ (l.map zi) i').r.t=l[i].t) with
   | true=>
    rw [hany] at hb;rw [if_pos hany] at u3;simp only [Option.map_some] at u3;have hw:YB (l.map zi) i=true:=by rw [hb,decide_eq_true ht];rfl
    rcases c2 with c2 | ⟨c2,c3⟩
    ·simp -implicitDefEqProofs only [bU,Jc,reduceCtorEq,Ja,Jb,bT,bV,Ja,Jb,Jg,Qs,J6,q0,q1,q4,q12,qs,ql,qx,h1,hL0,hz0,Jj,a1,a2,a3,a4,z,c,rc,rv,q29,k1,c2,u1,u2,u3,lkV,JG,JH]
     exact hit i _ _ _ _ (hfa hw) he rfl rfl rfl rfl
    ·simp -implicitDefEqProofs only [bU,Jc,reduceCtorEq,Ja,Jb,bT,bV,Ja,Jb,Jg,Qs,J6,q0,q1,q4,q12,qs,ql,qx,h1,hL0,hz0,Jj,a1,a2,a3,a4,z,c,rc,rv,q29,k1,c2,c3,u1,u2,u3,lkV,JG,JH]
     exact hit i _ _ _ _ (hfa hw) he rfl rfl rfl rfl
   | false=>
    rw [hany] at hb;rw [if_neg (by rw [hany];decide)] at u3
    simp only [Option.map_none] at u3;have hw:YB (l.map zi) i=false:=by rw [hb];simp
    have fin:=hnx (Z4 lb (Jq l[i].o,l[i].t) true) fun k=>by
     rw [JaI];by_cases e1:(Jq l[i].o,l[i].t)=k
     ·rw [if_pos e1,if_pos ⟨ht,e1.symm⟩]
     ·rw [if_neg e1,if_neg fun hh=>e1 hh.2.symm]
    rcases c2 with c2 | ⟨c2,c3⟩
    ·simp -implicitDefEqProofs only [bU,Jc,reduceCtorEq,Ja,Jb,bT,bV,Ja,Jb,Jg,Qs,J6,q0,q1,q4,q12,qs,ql,qx,h1,hL0,hz0,Jj,a1,a2,a3,a4,z,c,rc,rv,q29,k1,c2,u1,u2,u3,m1,m3,lkV,JG,JH,w9]
     exact ⟨_,bd,j+1,_,_,_,hjl,rfl,rfl,rfl,rfl,hid,nx hw,hn1,⟨_,Z9,fin⟩⟩
    ·simp -implicitDefEqProofs only [bU,Jc,reduceCtorEq,Ja,Jb,bT,bV,Ja,Jb,Jg,Qs,J6,q0,q1,q4,q12,qs,ql,qx,h1,hL0,hz0,Jj,a1,a2,a3,a4,z,c,rc,rv,q29,k1,c2,c3,u1,u2,u3,m1,m3,lkV,JG,JH,w9]
     exact ⟨_,bd,j+1,_,_,_,hjl,rfl,rfl,rfl,rfl,hid,nx hw,hn1,⟨_,Z9,fin⟩⟩
  ·have h2: ¬ l[i].t=5:=fun h=>ht (.inl h)
   have h39: ¬ l[i].t=39:=fun h=>ht (.inr h)
   have hw:YB (l.map zi) i=false:=by rw [hb];simp [h2,h39]
   simp -implicitDefEqProofs only [bU,Jc,reduceCtorEq,Ja,Jb,bT,bV,Ja,Jb,q0,q1,q4,q12,qs,ql,qx,h1,hL0,hz0,Jj,a1,a2,a3,a4,z,c,rc,rv,q29,h2,h39,w9];exact ⟨_,bd,j+1,_,_,H',hjl,rfl,rfl,rfl,rfl,he,nx hw,hn1,⟨lb,b1,hnx lb fun k=>by rw [if_neg fun hh=>ht hh.1]⟩⟩
 ·have hil:j=(Jn (l.map zi)).length:=by omega
  subst hil;have hno:=JcV (q:=YB (l.map zi)) fun i hi=>hp i hi hi
  rw [List.take_length] at hx;simp -implicitDefEqProofs only [bU,Jc,reduceCtorEq,bT,q0,q1,q4,q12,q29,qs,ql,qx,h1,hL0];exact miss hno _ _ H' he hn1 hx (by simp -implicitDefEqProofs only [bU,reduceCtorEq,bT]) (by simp -implicitDefEqProofs only [bU,Jc,reduceCtorEq,bT]) (by simp -implicitDefEqProofs only [bU,Jc,reduceCtorEq,bT]) (by simp -implicitDefEqProofs only [bU,Jc,reduceCtorEq,bT]) (by simp -implicitDefEqProofs only [bU,Jc,reduceCtorEq,bT])
end
end Go.Vm
