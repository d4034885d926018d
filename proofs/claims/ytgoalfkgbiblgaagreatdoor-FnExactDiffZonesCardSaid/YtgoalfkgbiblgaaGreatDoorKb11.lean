import Derived.Test.YtgoalfkgbiblgaaGreatDoorKb3
import Derived.Test.YtgoalfkgbiblgaaGreatDoorProg
import Derived.KernelRfl
import Derived.Test.YtgoalfkgbiblgaaGreatDoorKb6
import Derived.Test.YtgoalfkgbiblgaaGreatDoorKb4
import Derived.Test.YtgoalfkgbiblgaaGreatDoorKb5
import Derived.Shelf.Strings.Builder1
import Derived.WalkKit
import Derived.BigCall
import Derived.Shelf.Small.Strs
import Derived.Shelf.GgSortMore.Stable
import Derived.Ground.GgtProg
import Derived.Lib.ReflectliteSwap
/- Functions' code as literals of the abstract machine, printed by wip/tools/lits.py; the kernel checks each against the translation. -/
set_option linter.unusedVariables false
set_option linter.unusedSimpArgs false
set_option maxRecDepth 100000
open Nat renaming reduceEqDiff→Jc,reduceAdd→Ja
open Int renaming reduceToNat→Jd,reduceLE→Jf
namespace Go.Vm
def QU:Fn:=⟨2,[],
  .q (.o [.lbx 2 (.t 0)])
  (.q (.o [.mv 4 (.c (.i .i64 20))])
  (.q (.o [.mv 8 (.t 4),
   .mv 5 (.c (.i .i64 0)),
   .mv 6 (.t 8)])
  (.q (.b 0 (.l [1,2,4,5,6] (.q (.q (.o [.mv 9 (.t 6),
   .mv 10 (.t 1),
   .bn 11 .leq (.t 9) (.t 10)])
  (.i (.t 11) (.k)
  (.x 0)))
  (.b 1 (.q (.o [.ld 12 (.t 2) (some 2),
   .mv 13 (.t 5),
   .mv 14 (.t 6),
   .cl (some 15) 272 [(.t 12),(.t 13),(.t 14)]])
  (.q (.o [.mv 16 (.t 6),
   .mv 5 (.t 16)])
  (.o [.mv 17 (.t 6),
   .mv 18 (.t 4),
   .bn 19 .add (.t 17) (.t 18),
   .mv 6 (.t 19)])))))))
  (.q (.o [.ld 20 (.t 2) (some 2),
   .mv 21 (.t 5),
   .mv 22 (.t 1),
   .cl (some 23) 272 [(.t 20),(.t 21),(.t 22)]])
  (.b 2 (.l [1,2,4] (.q (.q (.o [.mv 24 (.t 4),
   .mv 25 (.t 1),
   .bn 26 .lss (.t 24) (.t 25)])
  (.i (.t 26) (.k)
  (.x 2)))
  (.b 3 (.q (.o [.mv 27 (.t 4),
   .bn 28 .mul (.c (.i .i64 2)) (.t 27),
   .mv 5 (.c (.i .i64 0)),
   .mv 6 (.t 28)])
  (.q (.b 4 (.l [1,2,4,5,6] (.q (.q (.o [.mv 29 (.t 6),
   .mv 30 (.t 1),
   .bn 31 .leq (.t 29) (.t 30)])
  (.i (.t 31) (.k)
  (.x 4)))
  (.b 5 (.q (.o [.ld 32 (.t 2) (some 2),
   .mv 33 (.t 5),
   .mv 34 (.t 5),
   .mv 35 (.t 4),
   .bn 36 .add (.t 34) (.t 35),
   .mv 37 (.t 6),
   .cl (some 38) 289 [(.t 32),(.t 33),(.t 36),(.t 37)]])
  (.q (.o [.mv 39 (.t 6),
   .mv 5 (.t 39)])
  (.o [.mv 40 (.t 6),
   .mv 41 (.t 4),
   .bn 42 .mul (.c (.i .i64 2)) (.t 41),
   .bn 43 .add (.t 40) (.t 42),
   .mv 6 (.t 43)])))))))
  (.q (.q (.o [.mv 44 (.t 5),
   .mv 45 (.t 4),
   .bn 46 .add (.t 44) (.t 45),
   .mv 7 (.t 46)])
  (.q (.o [.mv 47 (.t 7),
   .mv 48 (.t 1),
   .bn 49 .lss (.t 47) (.t 48)])
  (.i (.t 49) (.o [.ld 50 (.t 2) (some 2),
   .mv 51 (.t 5),
   .mv 52 (.t 7),
   .mv 53 (.t 1),
   .cl (some 54) 289 [(.t 50),(.t 51),(.t 52),(.t 53)]])
  (.k))))
  (.o [.mv 55 (.t 4),
   .bn 56 .mul (.t 55) (.c (.i .i64 2)),
   .mv 4 (.t 56)]))))))))))))⟩
abbrev WY:Nat:=220
theorem Jcr:Qi Go.Proofs.Tryz.prog QU 220=true:=by kernel_rfl
def JY:Fn:=⟨3,[],
  .q (.o [.lbx 3 (.t 0)])
  (.q (.o [.mv 8 (.t 1),
   .bn 9 .add (.t 8) (.c (.i .i64 1)),
   .mv 6 (.t 9)])
  (.b 0 (.l [1,2,3,6] (.q (.q (.o [.mv 10 (.t 6),
   .mv 11 (.t 2),
   .bn 12 .lss (.t 10) (.t 11)])
  (.i (.t 12) (.k)
  (.x 0)))
  (.q (.b 1 (.q (.o [.mv 15 (.t 6),
   .mv 7 (.t 15)])
  (.b 2 (.l [1,2,3,6,7] (.q (.q (.o [.mv 16 (.t 7),
   .mv 17 (.t 1),
   .bn 18 .gtr (.t 16) (.t 17),
   .mv 19 (.t 18),
   .gd 19 true (.fa 20 (.t 3) 0),
   .gd 19 true (.ld 21 (.t 20) none),
   .gd 19 true (.mv 22 (.t 7)),
   .gd 19 true (.mv 23 (.t 7)),
   .gd 19 true (.bn 24 .sub (.t 23) (.c (.i .i64 1))),
   .gd 19 true (.cv (some 25) (.t 21) [(.t 22),(.t 24)]),
   .pk 26 (.t 19) (.t 25) (.c (.b false))])
  (.i (.t 26) (.k)
  (.x 2)))
  (.q (.b 3 (.o [.fa 29 (.t 3) 1,
   .ld 30 (.t 29) none,
   .mv 31 (.t 7),
   .mv 32 (.t 7),
   .bn 33 .sub (.t 32) (.c (.i .i64 1)),
   .cv (some 34) (.t 30) [(.t 31),(.t 33)]]))
  (.o [.mv 27 (.t 7),
   .bn 28 .sub (.t 27) (.c (.i .i64 1)),
   .mv 7 (.t 28)])))))))
  (.o [.mv 13 (.t 6),
   .bn 14 .add (.t 13) (.c (.i .i64 1)),
   .mv 6 (.t 14)]))))))⟩
abbrev JX:Nat:=272
theorem Jav:Qi Go.Proofs.Tryz.prog JY 272=true:=by kernel_rfl
def Jm:Fn:=⟨4,[],
  .q (.o [.lbx 4 (.t 0)])
  (.q (.q (.o [.mv 23 (.t 2),
   .mv 24 (.t 1),
   .bn 25 .sub (.t 23) (.t 24),
   .bn 26 .eql (.t 25) (.c (.i .i64 1))])
  (.i (.t 26) (.q (.o [.mv 27 (.t 2),
   .mv 8 (.t 27)])
  (.q (.o [.mv 28 (.t 3),
   .mv 9 (.t 28)])
  (.q (.b 0 (.l [1,4,8,9] (.q (.q (.o [.mv 29 (.t 8),
   .mv 30 (.t 9),
   .bn 31 .lss (.t 29) (.t 30)])
  (.i (.t 31) (.k)
  (.x 0)))
  (.b 1 (.q (.o [.mv 32 (.t 8),
   .mv 33 (.t 9),
   .bn 34 .add (.t 32) (.t 33),
   .ci 35 .u64 (.t 34),
   .bn 36 .shr (.t 35) (.c (.i .u64 1)),
   .ci 37 .i64 (.t 36),
   .mv 10 (.t 37)])
  (.q (.o [.fa 38 (.t 4) 0,
   .ld 39 (.t 38) none,
   .mv 40 (.t 10),
   .mv 41 (.t 1),
   .cv (some 42) (.t 39) [(.t 40),(.t 41)]])
  (.i (.t 42) (.o [.mv 43 (.t 10),
   .bn 44 .add (.t 43) (.c (.i .i64 1)),
   .mv 8 (.t 44)])
  (.o [.mv 45 (.t 10),
   .mv 9 (.t 45)]))))))))
  (.q (.q (.o [.mv 46 (.t 1),
   .mv 11 (.t 46)])
  (.b 2 (.l [4,8,11] (.q (.q (.o [.mv 47 (.t 11),
   .mv 48 (.t 8),
   .bn 49 .sub (.t 48) (.c (.i .i64 1)),
   .bn 50 .lss (.t 47) (.t 49)])
  (.i (.t 50) (.k)
  (.x 2)))
  (.q (.b 3 (.o [.fa 53 (.t 4) 1,
   .ld 54 (.t 53) none,
   .mv 55 (.t 11),
   .mv 56 (.t 11),
   .bn 57 .add (.t 56) (.c (.i .i64 1)),
   .cv (some 58) (.t 54) [(.t 55),(.t 57)]]))
  (.o [.mv 51 (.t 11),
   .bn 52 .add (.t 51) (.c (.i .i64 1)),
   .mv 11 (.t 52)]))))))
  (.r)))))
  (.k)))
  (.q (.q (.o [.mv 59 (.t 3),
   .mv 60 (.t 2),
   .bn 61 .sub (.t 59) (.t 60),
   .bn 62 .eql (.t 61) (.c (.i .i64 1))])
  (.i (.t 62) (.q (.o [.mv 63 (.t 1),
   .mv 12 (.t 63)])
  (.q (.o [.mv 64 (.t 2),
   .mv 13 (.t 64)])
  (.q (.b 4 (.l [2,4,12,13] (.q (.q (.o [.mv 65 (.t 12),
   .mv 66 (.t 13),
   .bn 67 .lss (.t 65) (.t 66)])
  (.i (.t 67) (.k)
  (.x 4)))
  (.b 5 (.q (.o [.mv 68 (.t 12),
   .mv 69 (.t 13),
   .bn 70 .add (.t 68) (.t 69),
   .ci 71 .u64 (.t 70),
   .bn 72 .shr (.t 71) (.c (.i .u64 1)),
   .ci 73 .i64 (.t 72),
   .mv 14 (.t 73)])
  (.q (.o [.fa 74 (.t 4) 0,
   .ld 75 (.t 74) none,
   .mv 76 (.t 2),
   .mv 77 (.t 14),
   .cv (some 78) (.t 75) [(.t 76),(.t 77)],
   .un 79 .not (.t 78)])
  (.i (.t 79) (.o [.mv 80 (.t 14),
   .bn 81 .add (.t 80) (.c (.i .i64 1)),
   .mv 12 (.t 81)])
  (.o [.mv 82 (.t 14),
   .mv 13 (.t 82)]))))))))
  (.q (.q (.o [.mv 83 (.t 2),
   .mv 15 (.t 83)])
  (.b 6 (.l [4,12,15] (.q (.q (.o [.mv 84 (.t 15),
   .mv 85 (.t 12),
   .bn 86 .gtr (.t 84) (.t 85)])
  (.i (.t 86) (.k)
  (.x 6)))
  (.q (.b 7 (.o [.fa 89 (.t 4) 1,
   .ld 90 (.t 89) none,
   .mv 91 (.t 15),
   .mv 92 (.t 15),
   .bn 93 .sub (.t 92) (.c (.i .i64 1)),
   .cv (some 94) (.t 90) [(.t 91),(.t 93)]]))
  (.o [.mv 87 (.t 15),
   .bn 88 .sub (.t 87) (.c (.i .i64 1)),
   .mv 15 (.t 88)]))))))
  (.r)))))
  (.k)))
  (.q (.o [.mv 95 (.t 1),
   .mv 96 (.t 3),
   .bn 97 .add (.t 95) (.t 96),
   .ci 98 .u64 (.t 97),
   .bn 99 .shr (.t 98) (.c (.i .u64 1)),
   .ci 100 .i64 (.t 99),
   .mv 16 (.t 100)])
  (.q (.o [.mv 101 (.t 16),
   .mv 102 (.t 2),
   .bn 103 .add (.t 101) (.t 102),
   .mv 17 (.t 103)])
  (.q (.o [.mv 18 (.c (.i .i64 0)),
   .mv 19 (.c (.i .i64 0))])
  (.q (.q (.o [.mv 104 (.t 2),
   .mv 105 (.t 16),
   .bn 106 .gtr (.t 104) (.t 105)])
  (.i (.t 106) (.q (.o [.mv 107 (.t 17),
   .mv 108 (.t 3),
   .bn 109 .sub (.t 107) (.t 108),
   .mv 18 (.t 109)])
  (.o [.mv 110 (.t 16),
   .mv 19 (.t 110)]))
  (.q (.o [.mv 111 (.t 1),
   .mv 18 (.t 111)])
  (.o [.mv 112 (.t 2),
   .mv 19 (.t 112)]))))
  (.q (.o [.mv 113 (.t 17),
   .bn 114 .sub (.t 113) (.c (.i .i64 1)),
   .mv 20 (.t 114)])
  (.q (.b 8 (.l [1,2,3,4,16,17,18,19,20] (.q (.q (.o [.mv 115 (.t 18),
   .mv 116 (.t 19),
   .bn 117 .lss (.t 115) (.t 116)])
  (.i (.t 117) (.k)
  (.x 8)))
  (.b 9 (.q (.o [.mv 118 (.t 18),
   .mv 119 (.t 19),
   .bn 120 .add (.t 118) (.t 119),
   .ci 121 .u64 (.t 120),
   .bn 122 .shr (.t 121) (.c (.i .u64 1)),
   .ci 123 .i64 (.t 122),
   .mv 21 (.t 123)])
  (.q (.o [.fa 124 (.t 4) 0,
   .ld 125 (.t 124) none,
   .mv 126 (.t 20),
   .mv 127 (.t 21),
   .bn 128 .sub (.t 126) (.t 127),
   .mv 129 (.t 21),
   .cv (some 130) (.t 125) [(.t 128),(.t 129)],
   .un 131 .not (.t 130)])
  (.i (.t 131) (.o [.mv 132 (.t 21),
   .bn 133 .add (.t 132) (.c (.i .i64 1)),
   .mv 18 (.t 133)])
  (.o [.mv 134 (.t 21),
   .mv 19 (.t 134)]))))))))
  (.q (.o [.mv 135 (.t 17),
   .mv 136 (.t 18),
   .bn 137 .sub (.t 135) (.t 136),
   .mv 22 (.t 137)])
  (.q (.q (.o [.mv 138 (.t 18),
   .mv 139 (.t 2),
   .bn 140 .lss (.t 138) (.t 139),
   .mv 141 (.t 140),
   .gd 141 true (.mv 142 (.t 2)),
   .gd 141 true (.mv 143 (.t 22)),
   .gd 141 true (.bn 144 .lss (.t 142) (.t 143)),
   .pk 145 (.t 141) (.t 144) (.c (.b false))])
  (.i (.t 145) (.o [.ld 146 (.t 4) (some 2),
   .mv 147 (.t 18),
   .mv 148 (.t 2),
   .mv 149 (.t 22),
   .cl (some 150) 317 [(.t 146),(.t 147),(.t 148),(.t 149)]])
  (.k)))
  (.q (.q (.o [.mv 151 (.t 1),
   .mv 152 (.t 18),
   .bn 153 .lss (.t 151) (.t 152),
   .mv 154 (.t 153),
   .gd 154 true (.mv 155 (.t 18)),
   .gd 154 true (.mv 156 (.t 16)),
   .gd 154 true (.bn 157 .lss (.t 155) (.t 156)),
   .pk 158 (.t 154) (.t 157) (.c (.b false))])
  (.i (.t 158) (.o [.ld 159 (.t 4) (some 2),
   .mv 160 (.t 1),
   .mv 161 (.t 18),
   .mv 162 (.t 16),
   .cl (some 163) 289 [(.t 159),(.t 160),(.t 161),(.t 162)]])
  (.k)))
  (.q (.o [.mv 164 (.t 16),
   .mv 165 (.t 22),
   .bn 166 .lss (.t 164) (.t 165),
   .mv 167 (.t 166),
   .gd 167 true (.mv 168 (.t 22)),
   .gd 167 true (.mv 169 (.t 3)),
   .gd 167 true (.bn 170 .lss (.t 168) (.t 169)),
   .pk 171 (.t 167) (.t 170) (.c (.b false))])
  (.i (.t 171) (.o [.ld 172 (.t 4) (some 2),
   .mv 173 (.t 16),
   .mv 174 (.t 22),
   .mv 175 (.t 3),
   .cl (some 176) 289 [(.t 172),(.t 173),(.t 174),(.t 175)]])
  (.k))))))))))))))⟩
abbrev JI:Nat:=289
theorem JbA:Qi Go.Proofs.Tryz.prog Jm 289=true:=by kernel_rfl
def QT:Fn:=⟨4,[],
  .q (.o [.lbx 4 (.t 0)])
  (.q (.o [.mv 10 (.t 2),
   .mv 11 (.t 1),
   .bn 12 .sub (.t 10) (.t 11),
   .mv 8 (.t 12)])
  (.q (.o [.mv 13 (.t 3),
   .mv 14 (.t 2),
   .bn 15 .sub (.t 13) (.t 14),
   .mv 9 (.t 15)])
  (.q (.b 0 (.l [2,4,8,9] (.q (.q (.o [.mv 16 (.t 8),
   .mv 17 (.t 9),
   .bn 18 .neq (.t 16) (.t 17)])
  (.i (.t 18) (.k)
  (.x 0)))
  (.b 1 (.q (.o [.mv 19 (.t 8),
   .mv 20 (.t 9),
   .bn 21 .gtr (.t 19) (.t 20)])
  (.i (.t 21) (.q (.o [.ld 22 (.t 4) (some 2),
   .mv 23 (.t 2),
   .mv 24 (.t 8),
   .bn 25 .sub (.t 23) (.t 24),
   .mv 26 (.t 2),
   .mv 27 (.t 9),
   .cl (some 28) 326 [(.t 22),(.t 25),(.t 26),(.t 27)]])
  (.o [.mv 29 (.t 8),
   .mv 30 (.t 9),
   .bn 31 .sub (.t 29) (.t 30),
   .mv 8 (.t 31)]))
  (.q (.o [.ld 32 (.t 4) (some 2),
   .mv 33 (.t 2),
   .mv 34 (.t 8),
   .bn 35 .sub (.t 33) (.t 34),
   .mv 36 (.t 2),
   .mv 37 (.t 9),
   .bn 38 .add (.t 36) (.t 37),
   .mv 39 (.t 8),
   .bn 40 .sub (.t 38) (.t 39),
   .mv 41 (.t 8),
   .cl (some 42) 326 [(.t 32),(.t 35),(.t 40),(.t 41)]])
  (.o [.mv 43 (.t 9),
   .mv 44 (.t 8),
   .bn 45 .sub (.t 43) (.t 44),
   .mv 9 (.t 45)]))))))))
  (.o [.ld 46 (.t 4) (some 2),
   .mv 47 (.t 2),
   .mv 48 (.t 8),
   .bn 49 .sub (.t 47) (.t 48),
   .mv 50 (.t 2),
   .mv 51 (.t 8),
   .cl (some 52) 326 [(.t 46),(.t 49),(.t 50),(.t 51)]]))))⟩
abbrev JS:Nat:=317
theorem Jcl:Qi Go.Proofs.Tryz.prog QT 317=true:=by kernel_rfl
def Qo:Fn:=⟨4,[],
  .q (.o [.lbx 4 (.t 0)])
  (.q (.o [.mv 8 (.c (.i .i64 0))])
  (.b 0 (.l [1,2,3,4,8] (.q (.q (.o [.mv 9 (.t 8),
   .mv 10 (.t 3),
   .bn 11 .lss (.t 9) (.t 10)])
  (.i (.t 11) (.k)
  (.x 0)))
  (.q (.b 1 (.o [.fa 14 (.t 4) 1,
   .ld 15 (.t 14) none,
   .mv 16 (.t 1),
   .mv 17 (.t 8),
   .bn 18 .add (.t 16) (.t 17),
   .mv 19 (.t 2),
   .mv 20 (.t 8),
   .bn 21 .add (.t 19) (.t 20),
   .cv (some 22) (.t 15) [(.t 18),(.t 21)]]))
  (.o [.mv 12 (.t 8),
   .bn 13 .add (.t 12) (.c (.i .i64 1)),
   .mv 8 (.t 13)]))))))⟩
abbrev QQ:Nat:=326
theorem Jbh:Qi Go.Proofs.Tryz.prog Qo 326=true:=by kernel_rfl
section
variable {α:Type}
def swp [Inhabited α] (l:List α) (i j:Nat):List α:=(l.set i (l.getD j default)).set j (l.getD i default)
theorem JkZ [Inhabited α] (A:List α) (x:α) (B:List α):(A++x::B).getD A.length default=x:=by simp [List.getD]
theorem JaS [Inhabited α] {l A B:List α} {x:α} {i:Nat} (h:l=A++x::B) (hi:A.length=i):l.getD i default=x:=by subst h hi;exact JkZ A x B
theorem Job (A:List α) (x y:α) (B:List α):(A++x::B).set A.length y=A++y::B:=by simp []
theorem JgS {l A B:List α} {x y:α} {i:Nat} (h:l=A++x::B) (hi:A.length=i):l.set i y=A++y::B:=by subst h hi;exact Job A x y B
theorem JoB [Inhabited α] {l A B D:List α} {x y:α} {i j:Nat} (h:l=A++x::(B++y::D)) (hi:A.length=i) (hj:A.length+1+B.length=j):swp l i j=A++y::(B++x::D):=by
 have h2:l=(A++x::B)++y::D:=by rw [h];simp
 unfold swp;rw [JaS (i:=j) h2 (by simp;omega),JaS (i:=i) h hi,JgS h hi]
 exact (JgS (l:=A++y::(B++y::D)) (A:=A++y::B) (x:=y) (B:=D) (by simp) (by simp;omega)).trans (by simp)
theorem Jkw [Inhabited α] {l A B D:List α} {x y:α} {i j:Nat} (h:l=A++x::(B++y::D)) (hi:A.length=i) (hj:A.length+1+B.length=j):swp l j i=A++y::(B++x::D):=by
 have h2:l=(A++x::B)++y::D:=by rw [h];simp
 unfold swp;rw [JaS (i:=j) h2 (by simp;omega),JaS (i:=i) h hi,JgS (i:=j) h2 (by simp;omega)]
 exact JgS (l:=(A++x::B)++x::D) (A:=A) (x:=x) (B:=B++x::D) (by simp) hi
def exK (P X M Y Q:List α) (k:Nat):List α:=P++(Y.take k++(X.drop k++(M++(X.take k++(Y.drop k++Q)))))
theorem JoY {P X M Y Q:List α} (h:X.length=Y.length) (k:Nat):(exK P X M Y Q k).length=(P++(X++(M++(Y++Q)))).length:=by
 simp only [exK,List.length_append,List.length_take,List.length_drop];omega
theorem JnA (P X M Y Q:List α):exK P X M Y Q 0=P++(X++(M++(Y++Q))):=by simp [exK]
theorem Jqm {P X M Y Q:List α} {n:Nat} (hx:X.length=n) (hy:Y.length=n):exK P X M Y Q n=P++(Y++(M++(X++Q))):=by
 simp [exK,List.take_of_length_le (Nat.le_of_eq hx),List.take_of_length_le (Nat.le_of_eq hy),List.drop_of_length_le (Nat.le_of_eq hx),List.drop_of_length_le (Nat.le_of_eq hy)]
theorem Jnc [Inhabited α] {P X M Y Q:List α} {k a b:Nat} (h:X.length=Y.length) (hk:k < X.length) (ha:P.length=a) (hb:P.length+X.length+M.length=b):
  swp (exK P X M Y Q k) (a+k) (b+k)=exK P X M Y Q (k+1):=by
 have hx:X.drop k=X[k]::X.drop (k+1):=List.drop_eq_getElem_cons hk;have hy:Y.drop k=Y[k]::Y.drop (k+1):=List.drop_eq_getElem_cons (by omega)
 have h1:exK P X M Y Q k=(P++Y.take k)++X[k]::((X.drop (k+1)++(M++X.take k))++Y[k]::(Y.drop (k+1)++Q)):=by
  simp only [exK];rw [hx,hy];simp only [List.append_assoc,List.cons_append]
 rw [JoB h1 (by simp;omega) (by simp;omega)]
 simp only [exK];rw [List.take_succ_eq_append_getElem hk,List.take_succ_eq_append_getElem (l:=Y) (by omega)]
 simp only [List.append_assoc,List.cons_append,List.nil_append]
def Jvq (lt:α→α→Bool) (l:List α) (a b:Nat) (l':List α):Prop:= ∃ M,l'=l.take a++(M++l.drop b)∧M.Perm ((l.drop a).take (b-a))∧Srt lt M
variable {lt:α→α→Bool}
theorem JnC (hO:Jb0 lt) {S1 S2:List α} {x:α} (h:Srt lt (S1++S2)) (h2: ∀ s,s∈S2→lt x s=true) (h1:S1=[]∨ ∃ A y,S1=A++[y]∧lt x y=false):Srt lt (S1++x::S2):=by
 obtain ⟨s1,s2,s12⟩:=Srt.app.1 h;refine Srt.app.2 ⟨s1,List.pairwise_cons.2 ⟨fun s hs=>hO.asy _ _ (h2 s hs),s2⟩,fun s hs y hy=> ?_⟩
 rcases List.mem_cons.1 hy with rfl | hy
 ·rcases h1 with rfl | ⟨A,z,rfl,hz⟩
  ·cases hs
  ·rcases List.mem_append.1 hs with hs | hs
   ·exact hO.tr _ _ _ ((Srt.app.1 s1).2.2 s hs z (by simp)) hz
   ·rw [List.mem_singleton.1 hs];exact hz
 ·exact s12 s hs y hy
end
set_option linter.unusedSectionVars false
structure JcJ {α:Type} [Inhabited α] (C:Tab) (N:Nat) (Hs:List α→AH) (lt:α→α→Bool) (f:Nat) (cs:List AV) (f':Nat) (cs':List AV):Prop where
 less: ∀ (l:List α) (i j:Nat),l.length=N→i < N→j < N→C f ([.i .i64 i,.i .i64 j]++cs) (Hs l)=some (.b (lt (l.getD i default) (l.getD j default)),Hs l)
 swap: ∀ (l:List α) (i j:Nat),l.length=N→i < N→j < N→C f' ([.i .i64 i,.i .i64 j]++cs') (Hs l)=some (.tp [],Hs (swp l i j))
 big:N≤1099511627776
theorem Jea {f:Nat} {cs:List AV}:(∃ g ds,AV.fn f cs=AV.fn g ds)=True:=eq_true ⟨f,cs,rfl⟩
section
variable {α:Type} [Inhabited α] {C:Tab} {N:Nat} {Hs:List α→AH} {lt:α→α→Bool} {f f':Nat} {cs cs':List AV}
def ZV (f:Nat) (cs:List AV) (f':Nat) (cs':List AV):AV:= .ag [.fn f cs,.fn f' cs']
def JaO (C:Tab) (N:Nat) (Hs:List α→AH) (D:AV) (m:Nat):Prop:= ∀ (P X M Y Q:List α) (a b n:Nat),X.length=n→Y.length=n→P.length=a→a+n+M.length=b→(P++(X++(M++(Y++Q)))).length=N→
 C m [D,.i .i64 a,.i .i64 b,.i .i64 n] (Hs (P++(X++(M++(Y++Q)))))=some (.tp [],Hs (P++(Y++(M++(X++Q)))))
theorem Jit (hS:JcJ C N Hs lt f cs f' cs') {P X M Y Q:List α} {a b n:Nat} (hx:X.length=n) (hy:Y.length=n) (ha:P.length=a) (hb:a+n+M.length=b) (hl:(P++(X++(M++(Y++Q)))).length=N):
  Jt C Qo [ZV f cs f' cs',.i .i64 a,.i .i64 b,.i .i64 n] (Hs (P++(X++(M++(Y++Q))))) fun v H'=>H'=Hs (P++(Y++(M++(X++Q))))∧v= .tp []:=by
 unfold Jt Qo ZV;have hbig:=hS.big;have hN:a+n+M.length+n+Q.length=N:=by rw [←hl];simp;omega
 simp -implicitDefEqProofs only [bU,reduceCtorEq,Ja,bT]
 refine Jl (fun m e Mm=> ∃ (k:Nat),k≤n∧m=n-k∧look e 1= .i .i64 a∧look e 2= .i .i64 b∧look e 3= .i .i64 n∧look e 4= .la 4 0 0 0∧look e 8= .i .i64 k∧Mm=⟨[⟨4,0,0,[.ag [.fn f cs,.fn f' cs']]⟩],1,Hs (exK P X M Y Q k)⟩) ?_ (n:=n)
  ⟨0,by omega,by omega,rfl,rfl,rfl,rfl,rfl,by rw [JnA];rfl⟩
 rintro m e Mm ⟨k,hk,rfl,q1,q2,q3,q4,q8,rfl⟩;by_cases hlt:(k:Int) < n
 ·have hkn:k < n:=by omega
  have w1:IntKind.i64.wrap ((a:Int)+k)=((a+k:Nat):Int):=by rw [w64 (by omega) (by omega)];omega
  have w2:IntKind.i64.wrap ((b:Int)+k)=((b+k:Nat):Int):=by rw [w64 (by omega) (by omega)];omega
  have w3:IntKind.i64.wrap ((k:Int)+1)=((k+1:Nat):Int):=by rw [w64 (by omega) (by omega)];rfl
  have s:=hS.swap (exK P X M Y Q k) (a+k) (b+k) (by rw [JoY (by omega),hl]) (by omega) (by omega)
  rw [Jnc (by omega) (by omega) ha (by omega)] at s
  simp only [List.cons_append,List.nil_append] at s;simp -implicitDefEqProofs only [bU,Jc,Ja,bT,bV,Ja,Jea,q1,q2,q3,q4,q8,hlt,w1,w2,w3,s];exact ⟨n- (k+1),by omega,k+1,by omega,rfl,rfl,rfl⟩
 ·have hkn:k=n:=by omega
  subst hkn;simp -implicitDefEqProofs only [bU,Jc,bT,bV,q1,q2,q3,q4,q8,hlt,Jr,rsC,rsV,Js];rw [Jqm hx hy]
omit [Inhabited α] in
theorem JaO.at {m:Nat} (h:JaO C N Hs (ZV f cs f' cs') m) {l P X M Y Q:List α} {a b n:Nat} (hl:l=P++(X++(M++(Y++Q)))) (hx:X.length=n) (hy:Y.length=n) (ha:P.length=a) (hb:a+n+M.length=b) (hN:l.length=N):
  C m [ZV f cs f' cs',.i .i64 a,.i .i64 b,.i .i64 n] (Hs l)=some (.tp [],Hs (P++(Y++(M++(X++Q))))):=by
 subst hl;exact h P X M Y Q a b n hx hy ha hb hN
theorem JnN (hN:N≤1099511627776) (hW:JaO C N Hs (ZV f cs f' cs') QQ) {P X Y Q:List α} {a m b:Nat} (ha:P.length=a) (hm:a+X.length=m) (hb:m+Y.length=b) (hx:0 < X.length) (hy:0 < Y.length)
  (hl:(P++(X++(Y++Q))).length=N):
  Jt C QT [ZV f cs f' cs',.i .i64 a,.i .i64 m,.i .i64 b] (Hs (P++(X++(Y++Q)))) fun v H'=>H'=Hs (P++(Y++(X++Q)))∧v= .tp []:=by
 have hlen:a+X.length+Y.length+Q.length=N:=by rw [←hl];simp;omega
 have w1:IntKind.i64.wrap ((m:Int)-a)=(X.length:Int):=by rw [w64 (by omega) (by omega)];omega
 have w2:IntKind.i64.wrap ((b:Int)-m)=(Y.length:Int):=by rw [w64 (by omega) (by omega)];omega
 unfold Jt QT ZV;unfold ZV at hW;simp -implicitDefEqProofs only [bU,Jc,reduceCtorEq,Ja,bT,w1,w2]
 refine Jl (fun n e Mm=> ∃ (P' X' Y' Q':List α),n=X'.length+Y'.length∧P'.length+X'.length=m∧0 < X'.length∧0 < Y'.length∧P'.length+X'.length+Y'.length+Q'.length=N∧P'++(Y'++(X'++Q'))=P++(Y++(X++Q))∧
   look e 2= .i .i64 m∧look e 4= .la 4 0 0 0∧look e 8= .i .i64 X'.length∧look e 9= .i .i64 Y'.length∧Mm=⟨[⟨4,0,0,[.ag [.fn f cs,.fn f' cs']]⟩],1,Hs (P'++(X'++(Y'++Q')))⟩) ?_ (n:=X.length+Y.length)
  ⟨P,X,Y,Q,rfl,by omega,hx,hy,by omega,rfl,rfl,rfl,rfl,rfl,rfl⟩
 rintro n e Mm ⟨P',X',Y',Q',rfl,hm',hx',hy',hl',ht,q2,q4,q8,q9,rfl⟩;have z1:IntKind.i64.wrap ((m:Int)-X'.length)=(P'.length:Int):=by rw [w64 (by omega) (by omega)];omega
 by_cases hne:(X'.length:Int)=Y'.length
 ·have s:=hW.at (l:=P'++(X'++(Y'++Q'))) (M:=[]) (a:=P'.length) (b:=m) (n:=X'.length) (P:=P') (X:=X') (Y:=Y') (Q:=Q') (by simp) rfl (by omega) rfl (by simp;omega) (by simp;omega)
  simp only [ZV,List.nil_append] at s;rw [ht] at s;have hxy:X'.length=Y'.length:=by omega
  rw [hxy] at z1 s q8;simp -implicitDefEqProofs only [bU,Jc,Ja,bT,bV,Ja,q2,q4,q8,q9,z1,s,Jr,rsC,rsV,Js]
 ·by_cases hgt:(Y'.length:Int) < X'.length
  ·obtain ⟨X1,X2,e1,e2⟩: ∃ X1 X2,X'=X1++X2∧X1.length=Y'.length:=⟨X'.take Y'.length,X'.drop Y'.length,(List.take_append_drop _ _).symm,by rw [List.length_take];omega⟩
   have s:=hW.at (l:=P'++(X'++(Y'++Q'))) (M:=X2) (a:=P'.length) (b:=m) (n:=Y'.length) (P:=P') (X:=X1) (Y:=Y') (Q:=Q') (by rw [e1];simp) e2 rfl rfl (by rw [←hm',e1,List.length_append];omega) (by simp;omega)
   simp only [ZV] at s;have l2:X'.length=X1.length+X2.length:=by rw [e1,List.length_append]
   have w3:IntKind.i64.wrap ((X'.length:Int)-Y'.length)=(X2.length:Int):=by rw [w64 (by omega) (by omega)];omega
   simp -implicitDefEqProofs only [bU,Jc,Ja,bT,bV,Ja,q2,q4,q8,q9,hne,hgt,z1,s,w3];exact ⟨X2.length+X1.length,by omega,P'++Y',X2,X1,Q',rfl,by simp;omega,by omega,by omega,by simp;omega,by rw [←ht,e1];simp,rfl,by rw [e2],by simp⟩
  ·obtain ⟨Y1,Y2,e1,e2⟩: ∃ Y1 Y2,Y'=Y1++Y2∧Y2.length=X'.length:=⟨Y'.take (Y'.length-X'.length),Y'.drop (Y'.length-X'.length),(List.take_append_drop _ _).symm,by rw [List.length_drop];omega⟩
   have l2:Y'.length=Y1.length+Y2.length:=by rw [e1,List.length_append]
   have s:=hW.at (l:=P'++(X'++(Y'++Q'))) (M:=Y1) (a:=P'.length) (b:=m+Y1.length) (n:=X'.length) (P:=P') (X:=X') (Y:=Y2) (Q:=Q') (by rw [e1];simp) rfl e2 rfl (by omega) (by simp;omega)
   simp only [ZV] at s;have w3:IntKind.i64.wrap ((Y'.length:Int)-X'.length)=(Y1.length:Int):=by rw [w64 (by omega) (by omega)];omega
   have w4:IntKind.i64.wrap ((m:Int)+Y'.length)=((m+Y'.length:Nat):Int):=by rw [w64 (by omega) (by omega)];omega
   have w5:IntKind.i64.wrap (((m+Y'.length:Nat):Int)-X'.length)=((m+Y1.length:Nat):Int):=by rw [w64 (by omega) (by omega)];omega
   simp -implicitDefEqProofs only [bU,Jc,Ja,bT,bV,Ja,q2,q4,q8,q9,hne,hgt,z1,w3,w4,w5,s];exact ⟨Y2.length+Y1.length,by omega,P',Y2,Y1,X'++Q',rfl,by omega,by omega,by omega,by simp;omega,by rw [←ht,e1];simp,by rw [e2],rfl,rfl⟩
end
set_option linter.unusedSectionVars false
theorem Jp2 {α:Type} (l:List α):l=[]∨ ∃ A y,l=A++[y]:=by
 rcases List.eq_nil_or_concat l with h | ⟨A,y,h⟩
 ·exact .inl h
 ·exact .inr ⟨A,y,by simpa using h⟩
section
variable {α:Type} [Inhabited α] {C:Tab} {N:Nat} {Hs:List α→AH} {lt:α→α→Bool} {f f':Nat} {cs cs':List AV}
def Jer (lt:α→α→Bool) (C:Tab) (N:Nat) (Hs:List α→AH) (D:AV) (m:Nat):Prop:= ∀ (l:List α) (a b:Nat),l.length=N→a≤b→b≤N→
 ∃ l',Jvq lt l a b l'∧C m [D,.i .i64 a,.i .i64 b] (Hs l)=some (.tp [],Hs l')
theorem JpL (hO:Jb0 lt) (hS:JcJ C N Hs lt f cs f' cs') {l:List α} {a b:Nat} (hl:l.length=N) (hab:a≤b) (hb:b≤N):
  Jt C JY [ZV f cs f' cs',.i .i64 a,.i .i64 b] (Hs l) fun v H'=>v= .tp []∧ ∃ l',Jvq lt l a b l'∧H'=Hs l':=by
 unfold Jt JY ZV;have hbig:=hS.big;have w0:IntKind.i64.wrap ((a:Int)+1)=((a+1:Nat):Int):=by rw [w64 (by omega) (by omega)];rfl
 simp -implicitDefEqProofs only [bU,Jc,reduceCtorEq,Ja,bT,w0]
 refine Jl (fun n e Mm=> ∃ (i:Nat) (S D:List α),a+1≤i∧(i≤b∨i=a+1)∧n=b-i∧look e 1= .i .i64 a∧look e 2= .i .i64 b∧look e 3= .la 3 0 0 0∧look e 6= .i .i64 i∧D=l.drop (min i b)∧S.Perm ((l.drop a).take (min i b-a))∧Srt lt S∧
   Mm=⟨[⟨3,0,0,[.ag [.fn f cs,.fn f' cs']]⟩],1,Hs (l.take a++(S++D))⟩) ?_ (n:=b- (a+1))
  ⟨a+1,(l.drop a).take (min (a+1) b-a),l.drop (min (a+1) b),by omega,.inr rfl,rfl,rfl,rfl,rfl,rfl,rfl,.refl _,?_,?_⟩
 rotate_left
 ·by_cases h:a+1≤b
  ·rw [Nat.min_eq_left h,show a+1-a=1 by omega]
   cases hd:l.drop a with
   | nil=>exact .nil
   | cons x r=>exact .one
  ·rw [Nat.min_eq_right (by omega),show b-a=0 by omega]
   exact .nil
 ·have:l=l.take a++((l.drop a).take (min (a+1) b-a)++l.drop (min (a+1) b)):=by
   have h1:l.drop (min (a+1) b)=(l.drop a).drop (min (a+1) b-a):=by rw [List.drop_drop];congr 1;omega
   rw [h1,List.take_append_drop,List.take_append_drop]
  rw [←this];rfl
 rintro n e Mm ⟨i,S,D,h1,h2,rfl,q1,q2,q3,q6,rfl,hp,hs,rfl⟩;have hSl:=hp.length_eq;rw [List.length_take,List.length_drop] at hSl;by_cases hlt:(i:Int) < b
 ·have hib:i < b:=by omega
  have hmi:min i b=i:=by omega
  rw [hmi] at hp hSl ⊢;have hil:i < l.length:=by omega
  have hd:l.drop i=l[i]::l.drop (i+1):=List.drop_eq_getElem_cons hil;have w1:IntKind.i64.wrap ((i:Int)+1)=((i+1:Nat):Int):=by rw [w64 (by omega) (by omega)];rfl
  simp -implicitDefEqProofs only [bU,Jc,bT,q1,q2,q3,q6,hlt]
  refine Jl (fun n e Mm=> ∃ (S1 S2:List α),n=S1.length∧S=S1++S2∧(∀ s,s∈S2→lt l[i] s=true)∧look e 1= .i .i64 a∧look e 2= .i .i64 b∧look e 3= .la 3 0 0 0∧look e 6= .i .i64 i∧look e 7= .i .i64 ((a+S1.length:Nat):Int)∧
   Mm=⟨[⟨3,0,0,[.ag [.fn f cs,.fn f' cs']]⟩],1,Hs (l.take a++(S1++l[i]::(S2++l.drop (i+1))))⟩) ?_ (n:=S.length)
   ⟨S,[],rfl,by simp,fun s hs=>(by cases hs),rfl,rfl,rfl,rfl,by rw [show a+S.length=i by omega];rfl,by rw [hd];rfl⟩
  rintro n e Mm ⟨S1,S2,rfl,hS12,hgt,q1,q2,q3,q6,q7,rfl⟩;have hSS:S1.length+S2.length=S.length:=by rw [hS12,List.length_append]
  have fin:(S1=[]∨ ∃ A y,S1=A++[y]∧lt l[i] y=false)→(S1++l[i]::S2).Perm ((l.drop a).take (i+1-a))∧Srt lt (S1++l[i]::S2):=fun h=>by
   refine ⟨?_,JnC hO (hS12▸hs) hgt h⟩
   have e1:(l.drop a).take (i+1-a)=(l.drop a).take (i-a)++[l[i]]:=by
    rw [show i+1-a=(i-a)+1 by omega,List.take_succ_eq_append_getElem (by rw [List.length_drop];omega)]
    congr 2
    rw [List.getElem_drop];congr 1
    omega
   rw [e1];refine List.Perm.trans ?_ (List.Perm.append_right _ (hS12▸hp))
   rw [List.append_assoc];exact List.Perm.append_left _ (List.perm_append_singleton _ _).symm
  have hout:S1++l[i]::(S2++l.drop (i+1))=(S1++l[i]::S2)++l.drop (i+1):=by simp
  rcases Jp2 S1 with h0 | ⟨A,y,hA⟩
  ·subst h0
   have z: ¬ ((a:Int) < ((a+([]:List α).length:Nat):Int)):=by simp
   obtain ⟨f1,f2⟩:=fin (.inl rfl);simp -implicitDefEqProofs only [bU,Jc,reduceCtorEq,bT,bV,q1,q2,q3,q6,q7,z,w1];exact ⟨b- (i+1),by omega,i+1,_,_,by omega,.inl (by omega),rfl,rfl,by rw [show min (i+1) b=i+1 by omega],by rw [show min (i+1) b=i+1 by omega];exact f1,f2,by rfl⟩
  ·have hAl:S1.length=A.length+1:=by rw [hA];simp
   have z:(a:Int) < ((a+S1.length:Nat):Int):=by omega
   have w2:IntKind.i64.wrap (((a+S1.length:Nat):Int)-1)=((a+A.length:Nat):Int):=by rw [w64 (by omega) (by omega)];omega
   have hrow:l.take a++(S1++l[i]::(S2++l.drop (i+1)))=(l.take a++A)++y::([]++l[i]::(S2++l.drop (i+1))):=by rw [hA];simp
   have hla:(l.take a++A).length=a+A.length:=by rw [List.length_append,List.length_take];omega
   have hrl:(l.take a++(S1++l[i]::(S2++l.drop (i+1)))).length=N:=by simp;omega
   have s1:=hS.less _ (a+S1.length) (a+A.length) hrl (by omega) (by omega)
   rw [JaS (i:=a+A.length) hrow hla,JaS (l:=l.take a++(S1++l[i]::(S2++l.drop (i+1)))) (A:=l.take a++S1) (x:=l[i]) (B:=S2++l.drop (i+1)) (i:=a+S1.length) (by simp) (by rw [List.length_append,List.length_take];omega)] at s1
   simp only [List.cons_append,List.nil_append] at s1;cases hc:lt l[i] y with
   | false=>
    rw [hc] at s1;obtain ⟨f1,f2⟩:=fin (.inr ⟨A,y,hA,hc⟩);simp -implicitDefEqProofs only [bU,Jc,reduceCtorEq,Ja,bT,bV,Ja,Jea,q1,q2,q3,q6,q7,z,w1,w2,s1];exact ⟨b- (i+1),by omega,i+1,_,_,by omega,.inl (by omega),rfl,rfl,by rw [show min (i+1) b=i+1 by omega],by rw [show min (i+1) b=i+1 by omega];exact f1,f2,by rw [hout]⟩
   | true=>
    rw [hc] at s1;have s2:=hS.swap _ (a+S1.length) (a+A.length) hrl (by omega) (by omega)
    rw [Jkw (j:=a+S1.length) (i:=a+A.length) hrow hla (by rw [hla];simp;omega)] at s2
    simp only [List.cons_append,List.nil_append] at s2;simp -implicitDefEqProofs only [bU,Jc,Ja,bT,bV,Ja,Jea,q1,q2,q3,q6,q7,z,w2,s1,s2];exact ⟨A.length,by omega,A,y::S2,rfl,by rw [hS12,hA];simp,fun s hs=>(List.mem_cons.1 hs).elim (fun h=>h▸hc) (hgt s),rfl,by simp⟩
 ·have hmi:min i b=b:=by omega
  rw [hmi] at hp ⊢;simp -implicitDefEqProofs only [bU,Jc,bT,bV,q1,q2,q3,q6,hlt,Jr,rsC,rsV,Js];exact ⟨_,⟨S,rfl,hp,hs⟩,rfl⟩
end
set_option linter.unusedSectionVars false
theorem JmP {α:Type} {l:List α} {i:Nat} {d:α} (h:i < l.length):l.getD i d=l[i]:=by simp [List.getD,h]
theorem Jel (x y:AV) (c:List AV):[x,y]++c=x::y::c:=rfl
theorem wu64 {x:Int} (h1:0≤x) (h2:x≤18446744073709551615):IntKind.u64.wrap x=x:=by simp [IntKind.wrap,IntKind.bits,IntKind.signed];omega
section
variable {α:Type} [Inhabited α] {C:Tab} {N:Nat} {Hs:List α→AH} {lt:α→α→Bool} {f f':Nat} {cs cs':List AV}
theorem JeL (hO:Jb0 lt) {L R:List α} (hL:Srt lt L) (hR:Srt lt R) {s e:Nat} (hs:s≤L.length) (he:e≤R.length)
  (h1:s=0∨e=R.length∨lt (R.getD e default) (L.getD (s-1) default)=false) (h2:s=L.length∨e=0∨lt (R.getD (e-1) default) (L.getD s default)=true):
  ∀ x,x∈L.take s++R.take e→ ∀ y,y∈L.drop s++R.drop e→lt y x=false:=by
 refine JrU hO hL hR hs he ?_ ?_
 ·rcases h1 with h | h | h
  ·exact .inl h
  ·exact .inr (.inl h)
  ·by_cases a:s=0
   ·exact .inl a
   ·by_cases b:e=R.length
    ·exact .inr (.inl b)
    ·refine .inr (.inr ⟨by omega,by omega,?_⟩)
     rw [JmP (by omega),JmP (by omega)] at h
     exact h
 ·rcases h2 with h | h | h
  ·exact .inl h
  ·exact .inr (.inl h)
  ·by_cases a:s=L.length
   ·exact .inl a
   ·by_cases b:e=0
    ·exact .inr (.inl b)
    ·refine .inr (.inr ⟨by omega,by omega,?_⟩)
     rw [JmP (by omega),JmP (by omega)] at h
     exact h
theorem JcB (P L T:List α) {k i:Nat} (hk:k < L.length) (hi:P.length+k=i):(P++(L++T)).getD i default=L.getD k default:=by
 subst hi;simp only [List.getD];rw [List.getElem?_append_right (by omega),Nat.add_sub_cancel_left,List.getElem?_append_left hk]
theorem JiW {x:Nat} (h:x≤4398046511104):IntKind.i64.wrap ((IntKind.u64.wrap (x:Int)).fdiv (2 ^ min 1 IntKind.u64.bits))=((x / 2:Nat):Int):=by
 have e2:(2:Int) ^ (min 1 IntKind.u64.bits)=2:=by decide
 rw [wu64 (by omega) (by omega),e2,Int.fdiv_eq_ediv_of_nonneg _ (by omega),show (x:Int) / 2=((x / 2:Nat):Int) by omega,w64 (by omega) (by omega)]
def Jbv (C:Tab) (N:Nat) (Hs:List α→AH) (D:AV) (n:Nat):Prop:= ∀ (P X Y Q:List α) (a m b:Nat),P.length=a→a+X.length=m→m+Y.length=b→0 < X.length→0 < Y.length→(P++(X++(Y++Q))).length=N→
 C n [D,.i .i64 a,.i .i64 m,.i .i64 b] (Hs (P++(X++(Y++Q))))=some (.tp [],Hs (P++(Y++(X++Q))))
def Yo (lt:α→α→Bool) (C:Tab) (N:Nat) (Hs:List α→AH) (D:AV) (w n:Nat):Prop:= ∀ (P L R Q:List α) (a m b:Nat),P.length=a→a+L.length=m→m+R.length=b→0 < L.length→0 < R.length→L.length+R.length≤w→(P++(L++(R++Q))).length=N→Srt lt L→Srt lt R→
 ∃ M,M.Perm (L++R)∧Srt lt M∧C n [D,.i .i64 a,.i .i64 m,.i .i64 b] (Hs (P++(L++(R++Q))))=some (.tp [],Hs (P++(M++Q)))
theorem Jip (hO:Jb0 lt) (hS:JcJ C N Hs lt f cs f' cs') {P R Q:List α} {x:α} {a m b:Nat} (ha:P.length=a) (hm:a+1=m) (hb:m+R.length=b) (hr:0 < R.length)
  (hl:(P++([x]++(R++Q))).length=N) (sR:Srt lt R):
  Jt C Jm [ZV f cs f' cs',.i .i64 a,.i .i64 m,.i .i64 b] (Hs (P++([x]++(R++Q)))) fun v H'=>v= .tp []∧ ∃ M,M.Perm ([x]++R)∧Srt lt M∧H'=Hs (P++(M++Q)):=by
 unfold Jt Jm ZV;have hbig:=hS.big;have hN:a+1+R.length+Q.length=N:=by rw [←hl];simp;omega
 have w0:IntKind.i64.wrap ((m:Int)-a)=1:=by rw [w64 (by omega) (by omega)];omega
 simp -implicitDefEqProofs only [bU,Jc,reduceCtorEq,Ja,bT,w0]
 refine Jl (fun n e Mm=> ∃ (i j:Nat),m≤i∧i≤j∧j≤b∧(i=m∨lt (R.getD (i-1-m) default) x=true)∧(j=b∨lt (R.getD (j-m) default) x=false)∧n=j-i∧look e 1= .i .i64 a∧look e 4= .la 4 0 0 0∧look e 8= .i .i64 i∧look e 9= .i .i64 j∧
   Mm=⟨[⟨4,0,0,[.ag [.fn f cs,.fn f' cs']]⟩],1,Hs (P++([x]++(R++Q)))⟩) ?_ (n:=b-m)
  ⟨m,b,by omega,by omega,by omega,.inl rfl,.inl rfl,rfl,rfl,rfl,rfl,rfl,rfl⟩
 rintro n e Mm ⟨i,j,i1,i2,i3,i4,i5,rfl,q1,q4,q8,q9,rfl⟩;by_cases hlt:(i:Int) < j
 ·have w1:IntKind.i64.wrap ((i:Int)+j)=((i+j:Nat):Int):=by rw [w64 (by omega) (by omega)];omega
  have w2:=JiW (x:=i+j) (by omega)
  have hh:i≤(i+j) / 2∧(i+j) / 2 < j:=by omega
  generalize (i+j) / 2=h at w2 hh;have w3:IntKind.i64.wrap ((h:Int)+1)=((h+1:Nat):Int):=by rw [w64 (by omega) (by omega)];rfl
  have s:=hS.less _ h a hl (by omega) (by omega)
  rw [JcB (i:=a) P [x] (R++Q) (k:=0) (by simp) (by omega),show P++([x]++(R++Q))=(P++[x])++(R++Q) by simp,JcB (P++[x]) R Q (k:=h-m) (by omega) (by simp;omega)] at s
  rw [show (P++[x])++(R++Q)=P++([x]++(R++Q)) by simp] at s
  simp only [Jel,List.getD_cons_zero] at s;cases hc:lt (R.getD (h-m) default) x with
  | true=>
   rw [hc] at s;simp -implicitDefEqProofs only [bU,Jc,Ja,bT,Jd,Jf,bV,Ja,Jea,q1,q4,q8,q9,hlt,w1,w2,w3,s];exact ⟨j- (h+1),by omega,h+1,j,by omega,by omega,by omega,.inr (by rw [show h+1-1-m=h-m by omega];exact hc),i5,rfl,rfl,rfl⟩
  | false=>
   rw [hc] at s;simp -implicitDefEqProofs only [bU,Jc,Ja,bT,Jd,Jf,bV,Ja,Jea,q1,q4,q8,q9,hlt,w1,w2,s];exact ⟨h-i,by omega,i,h,by omega,by omega,by omega,i4,.inr hc,rfl,rfl,rfl⟩
 ·have hij:j=i:=by omega
  subst hij;have w4:IntKind.i64.wrap ((j:Int)-1)=((j-1:Nat):Int):=by rw [w64 (by omega) (by omega)];omega
  simp -implicitDefEqProofs only [bU,Jc,bT,bV,q1,q4,q8,q9,hlt]
  refine Jl (fun n e Mm=> ∃ (k:Nat),a≤k∧k≤j-1∧n=j-k∧look e 4= .la 4 0 0 0∧look e 8= .i .i64 j∧look e 11= .i .i64 k∧
   Mm=⟨[⟨4,0,0,[.ag [.fn f cs,.fn f' cs']]⟩],1,Hs (P++(R.take (k-a)++x::(R.drop (k-a)++Q)))⟩) ?_ (n:=j-a)
   ⟨a,by omega,by omega,rfl,rfl,rfl,rfl,by simp⟩
  rintro n e Mm ⟨k,k1,k2,rfl,q4,q8,q11,rfl⟩;by_cases hk:(k:Int) < ((j-1:Nat):Int)
  ·have w5:IntKind.i64.wrap ((k:Int)+1)=((k+1:Nat):Int):=by rw [w64 (by omega) (by omega)];rfl
   have hq:k-a < R.length:=by omega
   have hd:R.drop (k-a)=R[k-a]::R.drop (k-a+1):=List.drop_eq_getElem_cons hq;have hrow:P++(R.take (k-a)++x::(R.drop (k-a)++Q))=(P++R.take (k-a))++x::([]++R[k-a]::(R.drop (k-a+1)++Q)):=by rw [hd];simp only [List.append_assoc,List.cons_append,List.nil_append]
   have hla:(P++R.take (k-a)).length=k:=by rw [List.length_append,List.length_take];omega
   have s:=hS.swap (P++(R.take (k-a)++x::(R.drop (k-a)++Q))) k (k+1) (by simp;omega) (by omega) (by omega)
   rw [JoB hrow hla (by rw [hla];simp)] at s
   rw [Jel] at s;simp -implicitDefEqProofs only [bU,Jc,Ja,bT,bV,Ja,Jea,q4,q8,q11,w4,hk,w5,s];refine ⟨j- (k+1),by omega,k+1,by omega,by omega,rfl,rfl,?_⟩
   rw [show k+1-a=k-a+1 by omega,List.take_succ_eq_append_getElem hq]
   simp only [List.append_assoc,List.cons_append,List.nil_append]
  ·have hkj:k=j-1:=by omega
   subst hkj;simp -implicitDefEqProofs only [bU,Jc,bT,bV,q4,q8,q11,w4,hk,Jr,rsC,rsV,Js]
   have hle:=JeL hO (L:=[x]) (R:=R) (s:=0) (e:=j-1-a) .one sR (by simp) (by omega) (.inl rfl) (by
    rcases i4 with h | h
    ·exact .inr (.inl (by omega))
    ·refine .inr (.inr ?_)
     rw [show j-1-a-1=j-1-m by omega];exact h)
   have hge:=JeL hO (L:=[x]) (R:=R) (s:=1) (e:=j-1-a) .one sR (by simp) (by omega) (by
    rcases i5 with h | h
    ·exact .inr (.inl (by omega))
    ·refine .inr (.inr ?_)
     rw [show j-1-a=j-m by omega];exact h) (.inl rfl)
   refine ⟨R.take (j-1-a)++x::R.drop (j-1-a),?_,Srt.app.2 ⟨sR.take _,List.pairwise_cons.2 ⟨fun y hy=>hge x (by simp) y (by simpa using hy),sR.drop _⟩,fun p hp q hq=>hle p (by simp [hp]) q ?_⟩,by simp⟩
   ·have:([x]++R).Perm (x::(R.take (j-1-a)++R.drop (j-1-a))):=by rw [List.take_append_drop];exact .refl _
    exact List.perm_middle.trans this.symm
   ·rcases List.mem_cons.1 hq with rfl | hq
    ·simp
    ·exact List.mem_append.2 (.inr hq)
theorem Jir (hO:Jb0 lt) (hS:JcJ C N Hs lt f cs f' cs') {P L Q:List α} {y:α} {a m b:Nat} (ha:P.length=a) (hm:a+L.length=m) (hb:m+1=b) (hr:1 < L.length)
  (hl:(P++(L++([y]++Q))).length=N) (sL:Srt lt L):
  Jt C Jm [ZV f cs f' cs',.i .i64 a,.i .i64 m,.i .i64 b] (Hs (P++(L++([y]++Q)))) fun v H'=>v= .tp []∧ ∃ M,M.Perm (L++[y])∧Srt lt M∧H'=Hs (P++(M++Q)):=by
 unfold Jt Jm ZV;have hbig:=hS.big;have hN:a+L.length+1+Q.length=N:=by rw [←hl];simp;omega
 have w0:IntKind.i64.wrap ((m:Int)-a)=(L.length:Int):=by rw [w64 (by omega) (by omega)];omega
 have w0':IntKind.i64.wrap ((b:Int)-m)=1:=by rw [w64 (by omega) (by omega)];omega
 have z0: ¬ ((L.length:Int)=1):=by omega
 simp -implicitDefEqProofs only [bU,Jc,reduceCtorEq,Ja,bT,w0,w0',z0]
 refine Jl (fun n e Mm=> ∃ (i j:Nat),a≤i∧i≤j∧j≤m∧(i=a∨lt y (L.getD (i-1-a) default)=false)∧(j=m∨lt y (L.getD (j-a) default)=true)∧n=j-i∧look e 2= .i .i64 m∧look e 4= .la 4 0 0 0∧look e 12= .i .i64 i∧look e 13= .i .i64 j∧
   Mm=⟨[⟨4,0,0,[.ag [.fn f cs,.fn f' cs']]⟩],1,Hs (P++(L++([y]++Q)))⟩) ?_ (n:=m-a)
  ⟨a,m,by omega,by omega,by omega,.inl rfl,.inl rfl,rfl,rfl,rfl,rfl,rfl,rfl⟩
 rintro n e Mm ⟨i,j,i1,i2,i3,i4,i5,rfl,q2,q4,q8,q9,rfl⟩;by_cases hlt:(i:Int) < j
 ·have w1:IntKind.i64.wrap ((i:Int)+j)=((i+j:Nat):Int):=by rw [w64 (by omega) (by omega)];omega
  have w2:=JiW (x:=i+j) (by omega)
  have hh:i≤(i+j) / 2∧(i+j) / 2 < j:=by omega
  generalize (i+j) / 2=h at w2 hh;have w3:IntKind.i64.wrap ((h:Int)+1)=((h+1:Nat):Int):=by rw [w64 (by omega) (by omega)];rfl
  have s:=hS.less _ m h hl (by omega) (by omega)
  rw [JcB (i:=h) P L ([y]++Q) (k:=h-a) (by omega) (by omega),JaS (i:=m) (l:=P++(L++([y]++Q))) (A:=P++L) (x:=y) (B:=Q) (by simp) (by simp;omega),Jel] at s
  cases hc:lt y (L.getD (h-a) default) with
  | false=>
   rw [hc] at s;simp -implicitDefEqProofs only [bU,Jc,Ja,bT,Jd,Jf,bV,Ja,Jea,q2,q4,q8,q9,hlt,w1,w2,w3,s];exact ⟨j- (h+1),by omega,h+1,j,by omega,by omega,by omega,.inr (by rw [show h+1-1-a=h-a by omega];exact hc),i5,rfl,rfl,rfl⟩
  | true=>
   rw [hc] at s;simp -implicitDefEqProofs only [bU,Jc,Ja,bT,Jd,Jf,bV,Ja,Jea,q2,q4,q8,q9,hlt,w1,w2,s];exact ⟨h-i,by omega,i,h,by omega,by omega,by omega,i4,.inr hc,rfl,rfl,rfl⟩
 ·have hij:j=i:=by omega
  subst hij;simp -implicitDefEqProofs only [bU,Jc,bT,bV,q2,q4,q8,q9,hlt]
  refine Jl (fun n e Mm=> ∃ (k:Nat),j≤k∧k≤m∧n=k-j∧look e 4= .la 4 0 0 0∧look e 12= .i .i64 j∧look e 15= .i .i64 k∧
   Mm=⟨[⟨4,0,0,[.ag [.fn f cs,.fn f' cs']]⟩],1,Hs (P++(L.take (k-a)++y::(L.drop (k-a)++Q)))⟩) ?_ (n:=m-j)
   ⟨m,by omega,by omega,rfl,rfl,rfl,rfl,by rw [show m-a=L.length by omega];simp⟩
  rintro n e Mm ⟨k,k1,k2,rfl,q4,q8,q11,rfl⟩;by_cases hk:(j:Int) < k
  ·have w5:IntKind.i64.wrap ((k:Int)-1)=((k-1:Nat):Int):=by rw [w64 (by omega) (by omega)];omega
   have hq:k-1-a < L.length:=by omega
   have ht:L.take (k-a)=L.take (k-1-a)++[L[k-1-a]]:=by rw [show k-a=k-1-a+1 by omega,List.take_succ_eq_append_getElem hq]
   have hrow:P++(L.take (k-a)++y::(L.drop (k-a)++Q))=(P++L.take (k-1-a))++L[k-1-a]::([]++y::(L.drop (k-a)++Q)):=by rw [ht];simp only [List.append_assoc,List.cons_append,List.nil_append]
   have hla:(P++L.take (k-1-a)).length=k-1:=by rw [List.length_append,List.length_take];omega
   have s:=hS.swap (P++(L.take (k-a)++y::(L.drop (k-a)++Q))) k (k-1) (by simp;omega) (by omega) (by omega)
   rw [Jkw (j:=k) (i:=k-1) hrow hla (by rw [hla];simp;omega)] at s
   rw [Jel] at s;simp -implicitDefEqProofs only [bU,Jc,Ja,bT,bV,Ja,Jea,q4,q8,q11,hk,w5,s];refine ⟨k-1-j,by omega,k-1,by omega,by omega,rfl,rfl,?_⟩
   have hd:L.drop (k-1-a)=L[k-1-a]::L.drop (k-a):=by rw [List.drop_eq_getElem_cons hq,show k-1-a+1=k-a by omega]
   rw [hd];simp only [List.append_assoc,List.cons_append,List.nil_append]
  ·have hkj:k=j:=by omega
   subst hkj;simp -implicitDefEqProofs only [bU,Jc,bT,bV,q4,q8,q11,hk,Jr,rsC,rsV,Js]
   have hle:=JeL hO (L:=L) (R:=[y]) (s:=k-a) (e:=0) sL .one (by omega) (by simp) (by
    rcases i4 with h | h
    ·exact .inl (by omega)
    ·refine .inr (.inr ?_)
     rw [show k-a-1=k-1-a by omega];exact h) (.inr (.inl rfl))
   have hge:=JeL hO (L:=L) (R:=[y]) (s:=k-a) (e:=1) sL .one (by omega) (by simp) (.inr (.inl rfl)) (by
    rcases i5 with h | h
    ·exact .inl (by omega)
    ·exact .inr (.inr h))
   refine ⟨L.take (k-a)++y::L.drop (k-a),?_,Srt.app.2 ⟨sL.take _,List.pairwise_cons.2 ⟨fun z hz=>hge y (by simp) z (by simpa using hz),sL.drop _⟩,fun p hp q hq=>hle p (by simp [hp]) q ?_⟩,by simp⟩
   ·have:(L++[y]).Perm (y::(L.take (k-a)++L.drop (k-a))):=by rw [List.take_append_drop];exact List.perm_append_singleton _ _
    exact List.perm_middle.trans this.symm
   ·rcases List.mem_cons.1 hq with rfl | hq
    ·simp
    ·exact List.mem_append.2 (.inl hq)
end
set_option linter.unusedSectionVars false
def JcK (k:Nat):S:=sAt Jm.s (List.replicate k 1)
def Jj6 (k:Nat):S:=sAt Jm.s (List.replicate k 1++[0])
theorem JwS:JcK 7= .q (Jj6 7) (JcK 8):=rfl
theorem JwZ:JcK 8= .q (Jj6 8) (JcK 9):=rfl
theorem Jw9:JcK 9= .q (Jj6 9) (JcK 10):=rfl
theorem Ju8:JcK 10= .q (Jj6 10) (JcK 11):=rfl
theorem Jus:JcK 11= .q (Jj6 11) (JcK 12):=rfl
section
variable {α:Type} [Inhabited α] {C:Tab} {N:Nat} {Hs:List α→AH} {lt:α→α→Bool} {f f':Nat} {cs cs':List AV}
def Jg4 (f:Nat) (cs:List AV) (f':Nat) (cs':List AV) (H:AH):Mem:=⟨[⟨4,0,0,[.ag [.fn f cs,.fn f' cs']]⟩],1,H⟩
theorem JiR {w n:Nat} (hM:Yo lt C N Hs (ZV f cs f' cs') w n) {P A B Q:List α} {a s m:Nat} (ha:P.length=a) (hs:a+A.length=s) (hm:s+B.length=m) (hw:A.length+B.length≤w) (hl:(P++(A++(B++Q))).length=N) (sA:Srt lt A) (sB:Srt lt B):
  ∃ M,M.Perm (A++B)∧Srt lt M∧((a < s∧s < m)→C n [ZV f cs f' cs',.i .i64 a,.i .i64 s,.i .i64 m] (Hs (P++(A++(B++Q))))=some (.tp [],Hs (P++(M++Q))))∧(¬ (a < s∧s < m)→P++(M++Q)=P++(A++(B++Q))):=by
 by_cases h:a < s∧s < m
 ·obtain ⟨M,m1,m2,m3⟩:=hM P A B Q a s m ha hs hm (by omega) (by omega) hw hl sA sB
  exact ⟨M,m1,m2,fun _=>m3,fun x=>absurd h x⟩
 ·have:A=[]∨B=[]:=by
   by_cases h0:A.length=0
   ·exact .inl (List.eq_nil_of_length_eq_zero h0)
   ·exact .inr (List.eq_nil_of_length_eq_zero (by omega))
  refine ⟨A++B,.refl _,?_,fun x=>absurd x h,fun _=>by simp⟩
  rcases this with rfl | rfl
  ·simpa using sB
  ·simpa using sA
theorem JwU {w:Nat} (hM:Yo lt C N Hs (ZV f cs f' cs') w JI) {G:AV→AH→Prop} {P A B Q:List α} {mid s m:Nat} (ha:P.length=mid) (hs:mid+A.length=s) (hm:s+B.length=m) (hw:A.length+B.length≤w) (hl:(P++(A++(B++Q))).length=N) (sA:Srt lt A) (sB:Srt lt B)
  (hG: ∀ M,M.Perm (A++B)→Srt lt M→G (.tp []) (Hs (P++(M++Q)))) {e:Env} (q3:look e 3= .i .i64 m) (q4:look e 4= .la 4 0 0 0) (q16:look e 16= .i .i64 mid) (q22:look e 22= .i .i64 s):
  exec C (JcK 12) e (Jg4 f cs f' cs' (Hs (P++(A++(B++Q))))) (Jr [] G):=by
 obtain ⟨M,m1,m2,m3,m4⟩:=JiR hM ha hs hm hw hl sA sB;have hg:=hG M m1 m2;simp only [JcK,Jg4,ZV,Jm,List.replicate,sAt] at m3 ⊢;by_cases h1:mid < s
 ·have h1':(mid:Int) < s:=by omega
  by_cases h2:s < m
  ·have h2':(s:Int) < m:=by omega
   have s:=m3 ⟨h1,h2⟩;simp -implicitDefEqProofs only [bU,Jc,Ja,bT,bV,Ja,q3,q4,q16,q22,h1',h2',s,Jr,rsC,rsV,Js];exact hg
  ·have h2': ¬ (s:Int) < m:=by omega
   rw [m4 (by omega)] at hg
   simp -implicitDefEqProofs only [bU,Jc,bT,q3,q16,q22,h1',h2',Jr,rsC,rsV,Js];exact hg
 ·have h1': ¬ (mid:Int) < s:=by omega
  rw [m4 (by omega)] at hg
  simp -implicitDefEqProofs only [bU,Jc,bT,q16,q22,h1',Jr,rsC,rsV,Js];exact hg
theorem Jw1 {w:Nat} (hM:Yo lt C N Hs (ZV f cs f' cs') w JI) {κ:Jaa} {P A B Q:List α} {a s mid:Nat} (ha:P.length=a) (hs:a+A.length=s) (hm:s+B.length=mid) (hw:A.length+B.length≤w) (hl:(P++(A++(B++Q))).length=N) (sA:Srt lt A) (sB:Srt lt B)
  {e:Env} (q1:look e 1= .i .i64 a) (q4:look e 4= .la 4 0 0 0) (q16:look e 16= .i .i64 mid) (q18:look e 18= .i .i64 s)
  (hG: ∀ M,M.Perm (A++B)→Srt lt M→ ∀ e',look e' 3=look e 3→look e' 4=look e 4→look e' 16=look e 16→look e' 22=look e 22→exec C (JcK 12) e' (Jg4 f cs f' cs' (Hs (P++(M++Q)))) κ):
  exec C (JcK 11) e (Jg4 f cs f' cs' (Hs (P++(A++(B++Q))))) κ:=by
 obtain ⟨M,m1,m2,m3,m4⟩:=JiR hM ha hs hm hw hl sA sB;have hg:=hG M m1 m2;rw [Jus];generalize JcK 12=T at hg;simp only [Jj6,Jg4,ZV,Jm,List.replicate,List.cons_append,List.nil_append,sAt] at m3 hg ⊢;by_cases h1:a < s
 ·have h1':(a:Int) < s:=by omega
  by_cases h2:s < mid
  ·have h2':(s:Int) < mid:=by omega
   have s:=m3 ⟨h1,h2⟩;simp -implicitDefEqProofs only [bU,Jc,Ja,bT,bV,Ja,q1,q4,q16,q18,h1',h2',s];exact hg _ rfl rfl rfl rfl
  ·have h2': ¬ (s:Int) < mid:=by omega
   rw [m4 (by omega)] at hg
   simp -implicitDefEqProofs only [bU,Jc,bT,q1,q16,q18,h1',h2'];exact hg _ rfl rfl rfl rfl
 ·have h1': ¬ (a:Int) < s:=by omega
  rw [m4 (by omega)] at hg
  simp -implicitDefEqProofs only [bU,Jc,bT,q1,q18,h1'];exact hg _ rfl rfl rfl rfl
theorem JwM (hR:Jbv C N Hs (ZV f cs f' cs') JS) {κ:Jaa} {P L1 L2 R1 R2 Q:List α} {s m d:Nat} (hs:P.length+L1.length=s) (hm:s+L2.length=m) (hd:m+R1.length=d) (hl:(P++(L1++(L2++(R1++(R2++Q))))).length=N)
  {e:Env} (q2:look e 2= .i .i64 m) (q4:look e 4= .la 4 0 0 0) (q18:look e 18= .i .i64 s) (q22:look e 22= .i .i64 d)
  (hG: ∀ e',look e' 1=look e 1→look e' 3=look e 3→look e' 4=look e 4→look e' 16=look e 16→look e' 18=look e 18→look e' 22=look e 22→exec C (JcK 11) e' (Jg4 f cs f' cs' (Hs (P++(L1++(R1++(L2++(R2++Q))))))) κ):
  exec C (JcK 10) e (Jg4 f cs f' cs' (Hs (P++(L1++(L2++(R1++(R2++Q))))))) κ:=by
 rw [Ju8];generalize JcK 11=T at hG;by_cases h1:s < m
 ·have h1':(s:Int) < m:=by omega
  by_cases h2:m < d
  ·have h2':(m:Int) < d:=by omega
   have r:=hR (P++L1) L2 R1 (R2++Q) s m d (by simp;omega) hm hd (by omega) (by omega) (by simpa using hl)
   simp only [List.append_assoc] at r;simp only [Jj6,Jg4,ZV,Jm,List.replicate,List.cons_append,List.nil_append,sAt] at r hG ⊢;simp -implicitDefEqProofs only [bU,Jc,Ja,bT,bV,Ja,q2,q4,q18,q22,h1',h2',r];exact hG _ rfl rfl rfl rfl rfl rfl
  ·have h2': ¬ (m:Int) < d:=by omega
   have:R1=[]:=List.eq_nil_of_length_eq_zero (by omega)
   subst this;simp only [Jj6,Jg4,Jm,List.replicate,List.cons_append,List.nil_append,sAt] at hG ⊢;simp -implicitDefEqProofs only [bU,Jc,bT,q2,q18,q22,h1',h2'];exact hG _ rfl rfl rfl rfl rfl rfl
 ·have h1': ¬ (s:Int) < m:=by omega
  have:L2=[]:=List.eq_nil_of_length_eq_zero (by omega)
  subst this;simp only [Jj6,Jg4,Jm,List.replicate,List.cons_append,List.nil_append,sAt] at hG ⊢;simp -implicitDefEqProofs only [bU,Jc,bT,q2,q18,h1'];exact hG _ rfl rfl rfl rfl rfl rfl
theorem sy9 (hO:Jb0 lt) (hbig:N≤1099511627776) (hR:Jbv C N Hs (ZV f cs f' cs') JS) {w:Nat} (hM:Yo lt C N Hs (ZV f cs f' cs') w JI) {G:AV→AH→Prop} {P L R Q:List α} {a m b mid st:Nat}
  (ha:P.length=a) (hm:a+L.length=m) (hb:m+R.length=b) (h1:a≤st) (h2:st≤m) (h3:st≤mid) (h4:mid+m≤st+b) (hw1:mid-a≤w) (hw2:b-mid≤w) (hmb:mid≤b) (hl:(P++(L++(R++Q))).length=N) (sL:Srt lt L) (sR:Srt lt R)
  (c1:st=a∨mid-st=R.length∨lt (R.getD (mid-st) default) (L.getD (st-1-a) default)=false) (c2:st=m∨st=mid∨lt (R.getD (mid-1-st) default) (L.getD (st-a) default)=true)
  (hG: ∀ M,M.Perm (L++R)→Srt lt M→G (.tp []) (Hs (P++(M++Q))))
  {e:Env} (q1:look e 1= .i .i64 a) (q2:look e 2= .i .i64 m) (q3:look e 3= .i .i64 b) (q4:look e 4= .la 4 0 0 0) (q16:look e 16= .i .i64 mid) (q17:look e 17= .i .i64 ((mid+m:Nat):Int)) (q18:look e 18= .i .i64 st):
  exec C (JcK 9) e (Jg4 f cs f' cs' (Hs (P++(L++(R++Q))))) (Jr [] G):=by
 have hN:a+L.length+R.length+Q.length=N:=by rw [←hl];simp;omega
 have hcut:=JeL hO sL sR (s:=st-a) (e:=mid-st) (by omega) (by omega) (by
   rcases c1 with h | h | h
   ·exact .inl (by omega)
   ·exact .inr (.inl h)
   ·exact .inr (.inr (by rw [show st-a-1=st-1-a by omega];exact h))) (by
   rcases c2 with h | h | h
   ·exact .inl (by omega)
   ·exact .inr (.inl (by omega))
   ·exact .inr (.inr (by rw [show mid-st-1=mid-1-st by omega];exact h)))
 obtain ⟨L1,L2,eL,l1⟩: ∃ L1 L2,L=L1++L2∧L1.length=st-a:=⟨L.take (st-a),L.drop (st-a),(List.take_append_drop _ _).symm,by rw [List.length_take];omega⟩
 obtain ⟨R1,R2,eR,l2⟩: ∃ R1 R2,R=R1++R2∧R1.length=mid-st:=⟨R.take (mid-st),R.drop (mid-st),(List.take_append_drop _ _).symm,by rw [List.length_take];omega⟩
 rw [eL,←l1,List.take_left,List.drop_left,eR,←l2,List.take_left,List.drop_left] at hcut;have hLl:L.length=L1.length+L2.length:=by rw [eL,List.length_append]
 have hRl:R.length=R1.length+R2.length:=by rw [eR,List.length_append]
 rw [eL] at sL;rw [eR] at sR;obtain ⟨sL1,sL2,-⟩:=Srt.app.1 sL;obtain ⟨sR1,sR2,-⟩:=Srt.app.1 sR;have hrow:P++(L++(R++Q))=P++(L1++(L2++(R1++(R2++Q)))):=by rw [eL,eR];simp
 rw [hrow];rw [hrow] at hl;have w1:IntKind.i64.wrap (((mid+m:Nat):Int)-st)=((m+R1.length:Nat):Int):=by rw [w64 (by omega) (by omega)];omega
 rw [Jw9]
 have key: ∀ e',look e' 1=look e 1→look e' 2=look e 2→look e' 3=look e 3→look e' 4=look e 4→look e' 16=look e 16→look e' 18=look e 18→look e' 22= .i .i64 ((m+R1.length:Nat):Int)→
   exec C (JcK 10) e' (Jg4 f cs f' cs' (Hs (P++(L1++(L2++(R1++(R2++Q))))))) (Jr [] G):=fun e' r1 r2 r3 r4 r16 r18 r22=>by
  refine JwM hR (s:=st) (m:=m) (d:=m+R1.length) (by omega) (by omega) rfl hl (r2.trans q2) (r4.trans q4) (r18.trans q18) r22 fun e2 t1 t3 t4 t16 t18 t22=> ?_
  refine Jw1 hM (a:=a) (s:=st) (mid:=mid) ha (by omega) (by omega) (by omega) (by simp at hl ⊢;omega) sL1 sR1 (t1.trans (r1.trans q1)) (t4.trans (r4.trans q4)) (t16.trans (r16.trans q16)) (t18.trans (r18.trans q18)) fun M1 p1 s1 e3 u3 u4 u16 u22=> ?_
  have hM1:=p1.length_eq;rw [List.length_append] at hM1
  have:=JwU hM (P:=P++M1) (A:=L2) (B:=R2) (Q:=Q) (mid:=mid) (s:=m+R1.length) (m:=b) (G:=G) (by rw [List.length_append];omega) (by omega) (by omega) (by omega) (by simp at hl ⊢;omega) sL2 sR2 (fun M2 p2 s2=>by
   have:=JhN hO (L:=L) (R:=R) (s:=st-a) (e:=mid-st) (M1:=M1) (M2:=M2) (by
    rw [eL,←l1,List.take_left,List.drop_left,eR,←l2,List.take_left,List.drop_left];exact hcut) (by
    rw [eL,←l1,List.take_left,eR,←l2,List.take_left];exact p1) (by
    rw [eL,←l1,List.drop_left,eR,←l2,List.drop_left];exact p2) s1 s2
   have h:=hG (M1++M2) this.2 this.1;simpa using h) (u3.trans (t3.trans (r3.trans q3))) (u4.trans (t4.trans (r4.trans q4))) (u16.trans (t16.trans (r16.trans q16))) (u22.trans (t22.trans r22))
  simpa using this
 generalize JcK 10=T at key;simp only [Jj6,Jg4,Jm,List.replicate,List.cons_append,List.nil_append,sAt] at key ⊢;simp -implicitDefEqProofs only [bU,Jc,bT,q17,q18,w1];exact key _ rfl rfl rfl rfl rfl rfl rfl
theorem sy7 (hO:Jb0 lt) (hS:JcJ C N Hs lt f cs f' cs') (hR:Jbv C N Hs (ZV f cs f' cs') JS) {w:Nat} (hM:Yo lt C N Hs (ZV f cs f' cs') w JI) {G:AV→AH→Prop} {P L R Q:List α} {a m b mid s0 r0:Nat} (hL0:0 < L.length)
  (ha:P.length=a) (hm:a+L.length=m) (hb:m+R.length=b) (h1:a≤s0) (h2:r0≤m) (h3:r0≤mid) (h4:mid+m≤s0+b) (h5:s0≤r0) (hw1:mid-a≤w) (hw2:b-mid≤w) (hmb:mid≤b) (hl:(P++(L++(R++Q))).length=N) (sL:Srt lt L) (sR:Srt lt R)
  (c1:s0=a∨mid-s0=R.length) (c2:r0=m∨r0=mid)
  (hG: ∀ M,M.Perm (L++R)→Srt lt M→G (.tp []) (Hs (P++(M++Q))))
  {e:Env} (q1:look e 1= .i .i64 a) (q2:look e 2= .i .i64 m) (q3:look e 3= .i .i64 b) (q4:look e 4= .la 4 0 0 0) (q16:look e 16= .i .i64 mid) (q17:look e 17= .i .i64 ((mid+m:Nat):Int)) (q18:look e 18= .i .i64 s0) (q19:look e 19= .i .i64 r0):
  exec C (JcK 7) e (Jg4 f cs f' cs' (Hs (P++(L++(R++Q))))) (Jr [] G):=by
 have hbig:=hS.big;have hN:a+L.length+R.length+Q.length=N:=by rw [←hl];simp;omega
 by_cases hp:mid+m=0
 ·omega
 have w1:IntKind.i64.wrap (((mid+m:Nat):Int)-1)=((mid+m-1:Nat):Int):=by rw [w64 (by omega) (by omega)];omega
 rw [JwS,JwZ]
 have key: ∀ e' st,look e' 1= .i .i64 a→look e' 2= .i .i64 m→look e' 3= .i .i64 b→look e' 4= .la 4 0 0 0→look e' 16= .i .i64 mid→look e' 17= .i .i64 ((mid+m:Nat):Int)→look e' 18= .i .i64 (st:Nat)→
   s0≤st→st≤r0→(st=s0∨lt (R.getD (mid-st) default) (L.getD (st-1-a) default)=false)→(st=r0∨lt (R.getD (mid-1-st) default) (L.getD (st-a) default)=true)→
   exec C (JcK 9) e' (Jg4 f cs f' cs' (Hs (P++(L++(R++Q))))) (Jr [] G):=fun e' st r1 r2 r3 r4 r16 r17 r18 g1 g2 g3 g4=>
  sy9 hO hbig hR hM ha hm hb (by omega) (by omega) (by omega) (by omega) hw1 hw2 hmb hl sL sR (by
   rcases g3 with h | h
   ·rcases c1 with c | c
    ·exact .inl (by omega)
    ·exact .inr (.inl (by rw [h];exact c))
   ·exact .inr (.inr h)) (by
   rcases g4 with h | h
   ·rcases c2 with c | c
    ·exact .inl (by omega)
    ·exact .inr (.inl (by omega))
   ·exact .inr (.inr h)) hG r1 r2 r3 r4 r16 r17 r18
 generalize JcK 9=T at key;simp only [Jj6,Jg4,Jm,List.replicate,List.cons_append,List.nil_append,sAt] at key ⊢;simp -implicitDefEqProofs only [bU,Jc,bT,q17,w1]
 refine Jl (fun n e Mm=> ∃ (i j:Nat),s0≤i∧i≤j∧j≤r0∧(i=s0∨lt (R.getD (mid-i) default) (L.getD (i-1-a) default)=false)∧(j=r0∨lt (R.getD (mid-1-j) default) (L.getD (j-a) default)=true)∧n=j-i∧
   look e 1= .i .i64 a∧look e 2= .i .i64 m∧look e 3= .i .i64 b∧look e 4= .la 4 0 0 0∧look e 16= .i .i64 mid∧look e 17= .i .i64 ((mid+m:Nat):Int)∧look e 18= .i .i64 i∧look e 19= .i .i64 j∧look e 20= .i .i64 ((mid+m-1:Nat):Int)∧
   Mm=⟨[⟨4,0,0,[.ag [.fn f cs,.fn f' cs']]⟩],1,Hs (P++(L++(R++Q)))⟩) ?_ (n:=r0-s0)
  ⟨s0,r0,by omega,by omega,by omega,.inl rfl,.inl rfl,rfl,q1,q2,q3,q4,q16,q17,q18,q19,rfl,rfl⟩
 clear q1 q2 q3 q4 q16 q17 q18 q19;rintro n e Mm ⟨i,j,i1,i2,i3,i4,i5,rfl,q1,q2,q3,q4,q16,q17,q18,q19,q20,rfl⟩;by_cases hlt:(i:Int) < j
 ·have w2:IntKind.i64.wrap ((i:Int)+j)=((i+j:Nat):Int):=by rw [w64 (by omega) (by omega)];omega
  have w3:=JiW (x:=i+j) (by omega)
  have hh:i≤(i+j) / 2∧(i+j) / 2 < j:=by omega
  generalize (i+j) / 2=h at w3 hh;have w4:IntKind.i64.wrap ((h:Int)+1)=((h+1:Nat):Int):=by rw [w64 (by omega) (by omega)];rfl
  have w5:IntKind.i64.wrap (((mid+m-1:Nat):Int)-h)=((mid+m-1-h:Nat):Int):=by rw [w64 (by omega) (by omega)];omega
  have s:=hS.less _ (mid+m-1-h) h hl (by omega) (by omega)
  rw [JcB (i:=h) P L (R++Q) (k:=h-a) (by omega) (by omega),show P++(L++(R++Q))=(P++L)++(R++Q) by simp,JcB (P++L) R Q (k:=mid-1-h) (by omega) (by rw [List.length_append];omega)] at s
  rw [show (P++L)++(R++Q)=P++(L++(R++Q)) by simp,Jel] at s
  cases hc:lt (R.getD (mid-1-h) default) (L.getD (h-a) default) with
  | false=>
   rw [hc] at s;simp -implicitDefEqProofs only [bU,Jc,Ja,bT,Jd,Jf,bV,Ja,Jea,q1,q2,q3,q4,q16,q17,q18,q19,q20,hlt,w2,w3,w4,w5,s];exact ⟨j- (h+1),by omega,h+1,j,by omega,by omega,by omega,.inr (by rw [show mid- (h+1)=mid-1-h by omega,show h+1-1-a=h-a by omega];exact hc),i5,rfl,rfl,rfl⟩
  | true=>
   rw [hc] at s;simp -implicitDefEqProofs only [bU,Jc,Ja,bT,Jd,Jf,bV,Ja,Jea,q1,q2,q3,q4,q16,q17,q18,q19,q20,hlt,w2,w3,w5,s];exact ⟨h-i,by omega,i,h,by omega,by omega,by omega,i4,.inr hc,rfl,rfl,rfl⟩
 ·have hij:j=i:=by omega
  subst hij;simp -implicitDefEqProofs only [bU,Jc,bT,bV,q1,q2,q3,q4,q16,q17,q18,q19,q20,hlt];exact key _ j (by simp [look]) (by simp [look]) (by simp [look]) (by simp [look]) (by simp [look]) (by simp [look]) (by simp [look]) i1 i3 i4 i5
theorem JjH (hO:Jb0 lt) (hS:JcJ C N Hs lt f cs f' cs') (hR:Jbv C N Hs (ZV f cs f' cs') JS) {w:Nat} (hM:Yo lt C N Hs (ZV f cs f' cs') w JI) {P L R Q:List α} {a m b:Nat}
  (ha:P.length=a) (hm:a+L.length=m) (hb:m+R.length=b) (hL:0 < L.length) (hRl:0 < R.length) (hw:L.length+R.length≤2*w) (hl:(P++(L++(R++Q))).length=N) (sL:Srt lt L) (sR:Srt lt R):
  Jt C Jm [ZV f cs f' cs',.i .i64 a,.i .i64 m,.i .i64 b] (Hs (P++(L++(R++Q)))) fun v H'=>v= .tp []∧ ∃ M,M.Perm (L++R)∧Srt lt M∧H'=Hs (P++(M++Q)):=by
 by_cases c1:L.length=1
 ·obtain ⟨x,rfl⟩:=List.length_eq_one_iff.1 c1
  exact Jip hO hS ha (by simpa using hm) hb hRl hl sR
 by_cases c2:R.length=1
 ·obtain ⟨y,rfl⟩:=List.length_eq_one_iff.1 c2
  exact Jir hO hS ha hm (by simpa using hb) (by omega) hl sL
 have hbig:=hS.big;have hN:a+L.length+R.length+Q.length=N:=by rw [←hl];simp;omega
 have w0:IntKind.i64.wrap ((m:Int)-a)=(L.length:Int):=by rw [w64 (by omega) (by omega)];omega
 have w0':IntKind.i64.wrap ((b:Int)-m)=(R.length:Int):=by rw [w64 (by omega) (by omega)];omega
 have z0: ¬ ((L.length:Int)=1):=by omega
 have z1: ¬ ((R.length:Int)=1):=by omega
 have w1:IntKind.i64.wrap ((a:Int)+b)=((a+b:Nat):Int):=by rw [w64 (by omega) (by omega)];omega
 have w2:=JiW (x:=a+b) (by omega)
 have hh:2*((a+b) / 2)≤a+b∧a+b≤2*((a+b) / 2)+1:=by omega
 generalize (a+b) / 2=mid at w2 hh;have w3:IntKind.i64.wrap ((mid:Int)+m)=((mid+m:Nat):Int):=by rw [w64 (by omega) (by omega)];omega
 have key: ∀ e' s0 r0,look e' 1= .i .i64 a→look e' 2= .i .i64 m→look e' 3= .i .i64 b→look e' 4= .la 4 0 0 0→look e' 16= .i .i64 mid→look e' 17= .i .i64 ((mid+m:Nat):Int)→look e' 18= .i .i64 (s0:Nat)→look e' 19= .i .i64 (r0:Nat)→
   a≤s0→r0≤m→r0≤mid→mid+m≤s0+b→s0≤r0→(s0=a∨mid-s0=R.length)→(r0=m∨r0=mid)→
   exec C (JcK 7) e' (Jg4 f cs f' cs' (Hs (P++(L++(R++Q))))) (Jr [] fun v H'=>v= .tp []∧ ∃ M,M.Perm (L++R)∧Srt lt M∧H'=Hs (P++(M++Q))):=fun e' s0 r0 r1 r2 r3 r4 r16 r17 r18 r19 g1 g2 g3 g4 g5 g6 g7=>
  sy7 hO hS hR hM hL ha hm hb g1 g2 g3 g4 g5 (by omega) (by omega) (by omega) hl sL sR g6 g7 (fun M p s=>⟨rfl,M,p,s,rfl⟩) r1 r2 r3 r4 r16 r17 r18 r19
 have hs:Jm.s= .q (sAt Jm.s [0]) (.q (sAt Jm.s [1,0]) (.q (sAt Jm.s [1,1,0]) (.q (sAt Jm.s [1,1,1,0]) (.q (sAt Jm.s [1,1,1,1,0]) (.q (sAt Jm.s [1,1,1,1,1,0]) (.q (Jj6 6) (JcK 7))))))):=rfl;unfold Jt ZV;rw [hs];clear hs;simp only [Jg4] at key;generalize JcK 7=T at key;rw [show Jm.rs=[] from rfl]
 simp only [Jj6,Jm,List.replicate,List.cons_append,List.nil_append,sAt];by_cases hgt:(mid:Int) < m
 ·have w4:IntKind.i64.wrap (((mid+m:Nat):Int)-b)=((mid+m-b:Nat):Int):=by rw [w64 (by omega) (by omega)];omega
  simp -implicitDefEqProofs only [bU,Jc,reduceCtorEq,Ja,bT,Jd,Jf,bV,Ja,w0,w0',z0,z1,w1,w2,w3,w4,hgt];exact key _ (mid+m-b) mid rfl rfl rfl rfl rfl rfl rfl rfl (by omega) (by omega) (by omega) (by omega) (by omega) (.inr (by omega)) (.inr rfl)
 ·simp -implicitDefEqProofs only [bU,Jc,reduceCtorEq,Ja,bT,Jd,Jf,bV,Ja,w0,w0',z0,z1,w1,w2,w3,hgt]
  exact key _ a m rfl rfl rfl rfl rfl rfl rfl rfl (by omega) (by omega) (by omega) (by omega) (by omega) (.inl rfl) (.inl rfl)
end
set_option linter.unusedSectionVars false
section
variable {α:Type} [Inhabited α] {C:Tab} {N:Nat} {Hs:List α→AH} {lt:α→α→Bool} {f f':Nat} {cs cs':List AV}
def Full (lt:α→α→Bool) (k:Nat) (A:List (List α)):Prop:= ∀ x,x∈A→x.length=k∧Srt lt x
theorem Full.len {k:Nat}: ∀ {A:List (List α)},Full lt k A→A.flatten.length=A.length*k
 | [],_=>by simp
 | x::r,h=>by
  have h1:=(h x (by simp)).1
  have h2:=Full.len (A:=r) (fun y hy=>h y (by simp [hy]))
  rw [List.flatten_cons,List.length_append,h1,h2,List.length_cons,Nat.add_mul];omega
theorem Full.snoc {k:Nat} {A:List (List α)} {x:List α} (h:Full lt k A) (h1:x.length=k) (h2:Srt lt x):Full lt k (A++[x]):=fun y hy=>by
 rcases List.mem_append.1 hy with hy | hy
 ·exact h y hy
 ·rw [List.mem_singleton.1 hy];exact ⟨h1,h2⟩
theorem Jci {A:List (List α)} {x D:List α}:(A++[x]).flatten++D=A.flatten++(x++D):=by simp
def Jmj (lt:α→α→Bool) (C:Tab) (N:Nat) (Hs:List α→AH) (D:AV) (m:Nat):Prop:= ∀ (l:List α),l.length=N→ ∃ M,M.Perm l∧Srt lt M∧C m [D,.i .i64 N] (Hs l)=some (.tp [],Hs M)
theorem Jer.at {D:AV} {m:Nat} (h:Jer lt C N Hs D m) {P X Q:List α} {a b:Nat} (ha:P.length=a) (hb:a+X.length=b) (hl:(P++(X++Q)).length=N):
  ∃ M,M.Perm X∧Srt lt M∧C m [D,.i .i64 a,.i .i64 b] (Hs (P++(X++Q)))=some (.tp [],Hs (P++(M++Q))):=by
 obtain ⟨l',⟨M,rfl,hp,hs⟩,h2⟩:=h (P++(X++Q)) a b hl (by omega) (by simp at hl;omega)
 have e1:(P++(X++Q)).take a=P:=by subst ha;exact List.take_left
 have e2:(P++(X++Q)).drop a=X++Q:=by subst ha;exact List.drop_left
 have e3:(P++(X++Q)).drop b=Q:=by
  rw [←hb,←List.drop_drop,e2];exact List.drop_left
 rw [e2,show b-a=X.length by omega,List.take_left] at hp
 rw [e1,e3] at h2;exact ⟨M,hp,hs,h2⟩
theorem JmS (hO:Jb0 lt) (hbig:N≤1099511627776) (hI:Jer lt C N Hs (ZV f cs f' cs') JX) {w:Nat} (hw:N≤w) (hM:Yo lt C N Hs (ZV f cs f' cs') w JI) {l:List α} (hl:l.length=N):
  Jt C QU [ZV f cs f' cs',.i .i64 N] (Hs l) fun v H'=>v= .tp []∧ ∃ M,M.Perm l∧Srt lt M∧H'=Hs M:=by
 unfold Jt QU ZV;unfold ZV at hI hM;simp -implicitDefEqProofs only [bU,Jc,reduceCtorEq,Ja,bT]
 refine Jl (fun n e Mm=> ∃ (A:List (List α)) (D:List α),Full lt 20 A∧(A.flatten++D).Perm l∧n=D.length∧look e 1= .i .i64 N∧look e 2= .la 2 0 0 0∧look e 4= .i .i64 20∧look e 5= .i .i64 ((A.length*20:Nat):Int)∧look e 6= .i .i64 ((A.length*20+20:Nat):Int)∧
   Mm=⟨[⟨2,0,0,[.ag [.fn f cs,.fn f' cs']]⟩],1,Hs (A.flatten++D)⟩) ?_ (n:=l.length)
  ⟨[],l,fun x hx=>(by cases hx),by simp,rfl,rfl,rfl,rfl,rfl,rfl,by simp;rfl⟩
 rintro n e Mm ⟨A,D,hF,hP,rfl,q1,q2,q4,q5,q6,rfl⟩;have hAl:=hF.len;have hPl:=hP.length_eq;rw [List.length_append,hAl,hl] at hPl;by_cases hle:((A.length*20+20:Nat):Int)≤N
 ·obtain ⟨D1,D2,rfl,hD1⟩: ∃ D1 D2,D=D1++D2∧D1.length=20:=⟨D.take 20,D.drop 20,(List.take_append_drop _ _).symm,by rw [List.length_take];omega⟩
  rw [List.length_append] at hPl;obtain ⟨M,m1,m2,m3⟩:=hI.at (P:=A.flatten) (X:=D1) (Q:=D2) (a:=A.length*20) (b:=A.length*20+20) hAl (by omega) (by simp [hAl];omega)
  have w1:IntKind.i64.wrap (((A.length*20+20:Nat):Int)+20)=((A.length*20+20+20:Nat):Int):=by rw [w64 (by omega) (by omega)];rfl
  simp -implicitDefEqProofs only [bU,Jc,Ja,bT,bV,Ja,q1,q2,q4,q5,q6,hle,w1,m3];refine ⟨D2.length,by rw [List.length_append];omega,A++[M],D2,hF.snoc (by rw [m1.length_eq,hD1]) m2,?_,rfl,?_,?_,?_⟩
  ·rw [Jci]
   exact (List.Perm.append_left _ (List.Perm.append_right _ m1)).trans hP
  ·rw [List.length_append,List.length_singleton,Nat.add_mul]
  ·rw [List.length_append,List.length_singleton,Nat.add_mul]
  ·rw [Jci]
 ·obtain ⟨M,m1,m2,m3⟩:=hI.at (P:=A.flatten) (X:=D) (Q:=[]) (a:=A.length*20) (b:=N) hAl (by omega) (by simp [hAl];omega)
  simp only [List.append_nil] at m3;have hMl:=m1.length_eq;simp -implicitDefEqProofs only [bU,Jc,Ja,bT,bV,Ja,q1,q2,q4,q5,q6,hle,m3];have hP2:(A.flatten++M).Perm l:=(List.Perm.append_left _ m1).trans hP;clear q1 q2 q4 q5 q6 hP m1 m3
  refine Jl (fun n e Mm=> ∃ (k:Nat) (A:List (List α)) (M:List α),0 < k∧Full lt k A∧(A.flatten++M).Perm l∧Srt lt M∧M.length < k∧n=N-k∧look e 1= .i .i64 N∧look e 2= .la 2 0 0 0∧look e 4= .i .i64 k∧k≤2*N+20∧
    Mm=⟨[⟨2,0,0,[.ag [.fn f cs,.fn f' cs']]⟩],1,Hs (A.flatten++M)⟩) ?_ (n:=N-20)
   ⟨20,A,M,by omega,hF,hP2,m2,by omega,rfl,rfl,rfl,rfl,by omega,rfl⟩
  clear hF hAl hPl hle hMl hP2 m2;rintro n e Mm ⟨k,A,M,hk0,hF,hP,hS,hMk,rfl,q1,q2,q4,hk2,rfl⟩;have hAl:=hF.len;have hPl:=hP.length_eq;rw [List.length_append,hAl,hl] at hPl;by_cases hlt:(k:Int) < N
  ·have w2:IntKind.i64.wrap (2*(k:Int))=((2*k:Nat):Int):=by rw [w64 (by omega) (by omega)];omega
   have w3:IntKind.i64.wrap ((k:Int)*2)=((2*k:Nat):Int):=by rw [w64 (by omega) (by omega)];omega
   simp -implicitDefEqProofs only [bU,Jc,bT,bV,q1,q2,q4,hlt,w2]
   refine Jl (fun n e Mm=> ∃ (B A':List (List α)),Full lt (2*k) B∧Full lt k A'∧(B.flatten++(A'.flatten++M)).Perm l∧n=A'.length∧look e 1= .i .i64 N∧look e 2= .la 2 0 0 0∧look e 4= .i .i64 k∧
     look e 5= .i .i64 ((B.length*(2*k):Nat):Int)∧look e 6= .i .i64 ((B.length*(2*k)+2*k:Nat):Int)∧
     Mm=⟨[⟨2,0,0,[.ag [.fn f cs,.fn f' cs']]⟩],1,Hs (B.flatten++(A'.flatten++M))⟩) ?_ (n:=A.length)
    ⟨[],A,fun x hx=>(by cases hx),hF,by simpa using hP,rfl,rfl,rfl,rfl,by simp;rfl,by simp;rfl,by simp⟩
   clear q1 q2 q4 hF hP hAl hPl;rintro n e Mm ⟨B,A',hB,hF,hP,rfl,q1,q2,q4,q5,q6,rfl⟩;have hBl:=hB.len;have hAl:=hF.len;have hPl:=hP.length_eq;rw [List.length_append,List.length_append,hBl,hAl,hl] at hPl;generalize hbl:B.length*(2*k)=bl at*;by_cases hle:((bl+2*k:Nat):Int)≤N
   ·
    match A',hF,hAl,hPl,hP with
    | [],_,_,hPl,_=>simp at hPl;omega
    | [x],_,_,hPl,_=>simp at hPl;omega
    | x::y::r,hF,hAl,hPl,hP=>
     obtain ⟨x1,x2⟩:=hF x (by simp)
     obtain ⟨y1,y2⟩:=hF y (by simp)
     have e1:B.flatten++((x::y::r).flatten++M)=B.flatten++(x++(y++(r.flatten++M))):=by simp
     have hrow:(B.flatten++(x++(y++(r.flatten++M)))).length=N:=by rw [←e1,hP.length_eq,hl]
     obtain ⟨Z,z1,z2,z3⟩:=hM B.flatten x y (r.flatten++M) bl (bl+k) (bl+2*k) hBl (by omega) (by omega) (by omega) (by omega) (by omega) hrow x2 y2
     rw [e1] at hP ⊢;have w4:IntKind.i64.wrap ((bl:Int)+k)=((bl+k:Nat):Int):=by rw [w64 (by omega) (by omega)];omega
     have w5:IntKind.i64.wrap (((bl+2*k:Nat):Int)+((2*k:Nat):Int))=((bl+2*k+2*k:Nat):Int):=by rw [w64 (by omega) (by omega)];omega
     simp -implicitDefEqProofs only [bU,Jc,Ja,bT,bV,Ja,q1,q2,q4,q5,q6,hle,w2,w4,w5,z3];refine ⟨r.length,by simp only [List.length_cons];omega,B++[Z],r,hB.snoc (by rw [z1.length_eq,List.length_append];omega) z2,fun u hu=>hF u (by simp [hu]),?_,rfl,?_,?_,?_⟩
     ·rw [Jci]
      refine (List.Perm.append_left _ (List.Perm.append_right _ z1)).trans ?_
      simpa using hP
     ·rw [List.length_append,List.length_singleton,Nat.add_mul,hbl];simp
     ·rw [List.length_append,List.length_singleton,Nat.add_mul,hbl];simp
     ·rw [Jci]
   ·
    have w4:IntKind.i64.wrap ((bl:Int)+k)=((bl+k:Nat):Int):=by rw [w64 (by omega) (by omega)];omega
    match A',hF,hAl,hPl,hP with
    | [],_,_,hPl,hP=>
     simp only [List.flatten_nil,List.nil_append,List.length_nil,Nat.zero_mul,Nat.zero_add] at hPl hP ⊢;have z: ¬ (((bl+k:Nat):Int) < N):=by omega
     simp -implicitDefEqProofs only [bU,Jc,bT,bV,q1,q2,q4,q5,q6,hle,w4,w3,z];exact ⟨N-2*k,by omega,2*k,B,M,by omega,hB,hP,hS,by omega,rfl,rfl,by omega,rfl⟩
    | [x],hF,_,hPl,hP=>
     obtain ⟨x1,x2⟩:=hF x (by simp)
     simp only [List.flatten_cons,List.flatten_nil,List.append_nil,List.length_singleton,Nat.one_mul] at hPl hP ⊢;by_cases hM0:M.length=0
     ·have:M=[]:=List.eq_nil_of_length_eq_zero hM0
      subst this;have z: ¬ (((bl+k:Nat):Int) < N):=by simp at hPl;omega
      simp -implicitDefEqProofs only [bU,Jc,bT,bV,q1,q2,q4,q5,q6,hle,w4,w3,z];exact ⟨N-2*k,by omega,2*k,B,x,by omega,hB,by simpa using hP,x2,by omega,rfl,rfl,by omega,by simp⟩
     ·have z:((bl+k:Nat):Int) < N:=by omega
      have hrow:(B.flatten++(x++(M++[]))).length=N:=by simp [hBl];omega
      obtain ⟨Z,z1,z2,z3⟩:=hM B.flatten x M [] bl (bl+k) N hBl (by omega) (by omega) (by omega) (by omega) (by omega) hrow x2 hS
      simp only [List.append_nil] at z3;simp -implicitDefEqProofs only [bU,Jc,Ja,bT,bV,Ja,q1,q2,q4,q5,q6,hle,w4,w3,z,z3];exact ⟨N-2*k,by omega,2*k,B,Z,by omega,hB,(List.Perm.append_left _ z1).trans hP,z2,by rw [z1.length_eq,List.length_append];omega,rfl,rfl,by omega,rfl⟩
    | x::y::r,hF,hAl,hPl,hP=>
     simp only [List.length_cons,Nat.add_mul] at hPl;omega
  ·simp -implicitDefEqProofs only [bU,Jc,bT,bV,q1,q2,q4,hlt,Jr,rsC,rsV,Js]
   refine ⟨_,hP,?_,rfl⟩
   match A,hF,hPl with
   | [],_,_=>simpa using hS
   | [x],hF,hPl=>
    obtain ⟨x1,x2⟩:=hF x (by simp)
    have:M=[]:=List.eq_nil_of_length_eq_zero (by simp at hPl;omega)
    subst this;simpa using x2
   | x::y::r,hF,hPl=>
    simp only [List.length_cons,Nat.add_mul] at hPl;omega
end
end Go.Vm
namespace Go.Proofs
open Go.Shelf
def Tryz.lays166_ren:Go.Shelf.Ren:=⟨fun | 166=>253 | 240=>302 | 276=>322 | n=>n,fun | 0=>0 | 3=>3 | 4=>4 | 5=>5 | 9=>9 | 20=>20 | 37=>90 | 70=>289 | 72=>291 | 75=>293 | 80=>297 | 164=>242 | n=>n,fun | n=>n⟩
theorem Tryz.lays166:Go.Proofs.Lays.n166 Tryz.prog Tryz.lays166_ren:={
 mixed:=by kernel_rfl
 f166:=Tryz.func253.trans (congrArg some (by kernel_rfl))
 f240:=Tryz.func302.trans (congrArg some (by kernel_rfl))
 f276:=Tryz.func322.trans (congrArg some (by kernel_rfl))
 t0:=Tryz.underlying0
 a0:=Tryz.isAgg0
 z0:=Tryz.sizeOf0
 v0:=Tryz.zeroValue0
 t3:=Tryz.underlying3
 a3:=Tryz.isAgg3
 z3:=Tryz.sizeOf3
 v3:=Tryz.zeroValue3
 t4:=Tryz.underlying4
 a4:=Tryz.isAgg4
 z4:=Tryz.sizeOf4
 v4:=Tryz.zeroValue4
 t9:=Tryz.underlying9
 a9:=Tryz.isAgg9
 z9:=Tryz.sizeOf9
 v9:=Tryz.zeroValue9
 t20:=Tryz.underlying20
 a20:=Tryz.isAgg20
 z20:=Tryz.sizeOf20
 v20:=Tryz.zeroValue20
 t37:=Tryz.underlying90
 a37:=Tryz.isAgg90
 z37:=Tryz.sizeOf90
 v37:=Tryz.zeroValue90
 t70:=Tryz.underlying289
 a70:=Tryz.isAgg289
 z70:=Tryz.sizeOf289
 v70:=Tryz.zeroValue289
 t72:=Tryz.underlying291
 a72:=Tryz.isAgg291
 z72:=Tryz.sizeOf291
 v72:=Tryz.zeroValue291
 t75:=Tryz.underlying293
 a75:=Tryz.isAgg293
 z75:=Tryz.sizeOf293
 v75:=Tryz.zeroValue293
 t164:=Tryz.underlying242
 a164:=Tryz.isAgg242
 z164:=Tryz.sizeOf242
 v164:=Tryz.zeroValue242}
def Tryz.lays167_ren:Go.Shelf.Ren:=⟨fun | 167=>252 | 240=>302 | 276=>322 | n=>n,fun | 0=>0 | 4=>4 | 5=>5 | 9=>9 | 20=>20 | 37=>90 | 70=>289 | 72=>291 | 75=>293 | 80=>297 | 164=>242 | n=>n,fun | n=>n⟩
theorem Tryz.lays167:Go.Proofs.Lays.n167 Tryz.prog Tryz.lays167_ren:={
 mixed:=by kernel_rfl
 f167:=Tryz.func252.trans (congrArg some (by kernel_rfl))
 f240:=Tryz.func302.trans (congrArg some (by kernel_rfl))
 f276:=Tryz.func322.trans (congrArg some (by kernel_rfl))
 t0:=Tryz.underlying0
 a0:=Tryz.isAgg0
 z0:=Tryz.sizeOf0
 v0:=Tryz.zeroValue0
 t4:=Tryz.underlying4
 a4:=Tryz.isAgg4
 z4:=Tryz.sizeOf4
 v4:=Tryz.zeroValue4
 t5:=Tryz.underlying5
 a5:=Tryz.isAgg5
 z5:=Tryz.sizeOf5
 v5:=Tryz.zeroValue5
 t9:=Tryz.underlying9
 a9:=Tryz.isAgg9
 z9:=Tryz.sizeOf9
 v9:=Tryz.zeroValue9
 t20:=Tryz.underlying20
 a20:=Tryz.isAgg20
 z20:=Tryz.sizeOf20
 v20:=Tryz.zeroValue20
 t37:=Tryz.underlying90
 a37:=Tryz.isAgg90
 z37:=Tryz.sizeOf90
 v37:=Tryz.zeroValue90
 t70:=Tryz.underlying289
 a70:=Tryz.isAgg289
 z70:=Tryz.sizeOf289
 v70:=Tryz.zeroValue289
 t72:=Tryz.underlying291
 a72:=Tryz.isAgg291
 z72:=Tryz.sizeOf291
 v72:=Tryz.zeroValue291
 t75:=Tryz.underlying293
 a75:=Tryz.isAgg293
 z75:=Tryz.sizeOf293
 v75:=Tryz.zeroValue293
 t164:=Tryz.underlying242
 a164:=Tryz.isAgg242
 z164:=Tryz.sizeOf242
 v164:=Tryz.zeroValue242}
def Tryz.lays169_ren:Go.Shelf.Ren:=⟨fun | 169=>254 | n=>n,fun | 0=>0 | 3=>3 | 5=>5 | 9=>9 | 37=>90 | 70=>289 | 72=>291 | 127=>339 | n=>n,fun | n=>n⟩
theorem Tryz.lays169:Go.Proofs.Lays.n169 Tryz.prog Tryz.lays169_ren:={
 mixed:=by kernel_rfl
 f169:=Tryz.func254.trans (congrArg some (by kernel_rfl))
 t0:=Tryz.underlying0
 a0:=Tryz.isAgg0
 z0:=Tryz.sizeOf0
 v0:=Tryz.zeroValue0
 t3:=Tryz.underlying3
 a3:=Tryz.isAgg3
 z3:=Tryz.sizeOf3
 v3:=Tryz.zeroValue3
 t9:=Tryz.underlying9
 a9:=Tryz.isAgg9
 z9:=Tryz.sizeOf9
 v9:=Tryz.zeroValue9
 t37:=Tryz.underlying90
 a37:=Tryz.isAgg90
 z37:=Tryz.sizeOf90
 v37:=Tryz.zeroValue90
 t70:=Tryz.underlying289
 a70:=Tryz.isAgg289
 z70:=Tryz.sizeOf289
 v70:=Tryz.zeroValue289
 t72:=Tryz.underlying291
 a72:=Tryz.isAgg291
 z72:=Tryz.sizeOf291
 v72:=Tryz.zeroValue291
 t127:=Tryz.underlying339
 a127:=Tryz.isAgg339
 z127:=Tryz.sizeOf339
 v127:=Tryz.zeroValue339}
theorem Tryz.Builder_Extra_166:Builder.Extra Tryz.prog Tryz.lays166_ren:={
 sizeBuilder:=by kernel_rfl
 liesBuilder:=by kernel_rfl
 t5:=Tryz.underlying5
 a5:=Tryz.isAgg5
 z5:=Tryz.sizeOf5
 v5:=Tryz.zeroValue5
 infoByte:=by kernel_rfl
 cellsByte:=by kernel_rfl
 sizeByte:=by kernel_rfl
 neB5:=by decide}
theorem Tryz.Builder_Extra_167:Builder.Extra Tryz.prog Tryz.lays167_ren:={
 sizeBuilder:=by kernel_rfl
 liesBuilder:=by kernel_rfl
 t5:=Tryz.underlying5
 a5:=Tryz.isAgg5
 z5:=Tryz.sizeOf5
 v5:=Tryz.zeroValue5
 infoByte:=by kernel_rfl
 cellsByte:=by kernel_rfl
 sizeByte:=by kernel_rfl
 neB5:=by decide}
theorem Tryz.Builder_Extra_169:Builder.Extra Tryz.prog Tryz.lays169_ren:={
 sizeBuilder:=by kernel_rfl
 liesBuilder:=by kernel_rfl
 t5:=Tryz.underlying5
 a5:=Tryz.isAgg5
 z5:=Tryz.sizeOf5
 v5:=Tryz.zeroValue5
 infoByte:=by kernel_rfl
 cellsByte:=by kernel_rfl
 sizeByte:=by kernel_rfl
 neB5:=by decide}
end Go.Proofs
namespace Go.Proofs
open Go.RowKit
def joinB:List ByteArray→List UInt8
 | []=>[0]
 | x::r=>UInt8.ofNat x.size::(x.data.toList++joinB r)
def joinP:List ByteArray→List UInt8
 | []=>[]
 | x::r=>UInt8.ofNat x.size::(x.data.toList++joinP r)
theorem JfD: ∀ (l:List ByteArray) (x:ByteArray),joinP (l++[x])=joinP l++[UInt8.ofNat x.size]++x.data.toList
 | [],x=>by simp [joinP]
 | y::r,x=>by simp [joinP,JfD r x]
theorem joinB_P: ∀ l:List ByteArray,joinB l=joinP l++[0]
 | []=>rfl
 | x::r=>by simp [joinB,joinP,joinB_P r]
theorem Jct: ∀ (l:List ByteArray) (k:Nat),(joinP (l.take k)).length≤(joinP l).length
 | [],k=>by simp
 | x::r,0=>by simp [joinP]
 | x::r,k+1=>by
  have:=Jct r k;simp only [List.take_succ_cons,joinP,List.length_cons,List.length_append];omega
theorem Jj5 (l:List ByteArray) (k:Nat) (x:ByteArray) (h:l[k]? =some x):joinP (l.take (k+1))=joinP (l.take k)++[UInt8.ofNat x.size]++x.data.toList:=by
 obtain ⟨hk,rfl⟩:=List.getElem?_eq_some_iff.1 h;rw [List.take_succ_eq_append_getElem hk,JfD]
set_option maxHeartbeats 4000000 in
set_option maxRecDepth 1000000 in
theorem Tryz.joined_some (bk o c:Nat) (xs:List ByteArray) (w:World) (hcells: ∀ (j:Nat) x,xs[j]? =some x→w.cell? ⟨bk,o+j,none⟩=some (.string x)) (hbk:bk < w.heap.size) (hN:xs.length≤1099511627776) (hlen:(joinP xs).length≤1099511627776):
  Calls Tryz.prog 183 #[.slice (some ⟨bk,o,none⟩) xs.length c] w fun e w'=>e= .returned (.string ⟨(joinB xs).toArray⟩)∧Below w.heap.size w w':=by
 go_enter Tryz.func183,Tryz.ntmps183
 go_wp2
 go_loopw [8] (fun i wr=> ∃ k:Nat,k≤xs.length∧i= .int .i64 k∧Lib.IsBuilder 291 5 w.heap.size w.heap.size (Lib.byteCells (joinP (xs.take k))) wr∧Below w.heap.size w wr) (fun i _=>xs.length- (intOf i).toNat)
 case atStart=>exact ⟨0,Nat.zero_le _,rfl,Lib.fresh_isBuilder 291 5 w,(Below.refl _ w).alloc (Nat.le_refl _) _⟩
 case round=>
  obtain ⟨k,hk,rfl,hI,hbw⟩:=hrel;have hsz:w.heap.size≤wr.heap.size:=hbw.size;by_cases hkn:k < xs.length
  ·obtain ⟨x,hx⟩: ∃ x,xs[k]? =some x:=⟨xs[k],List.getElem?_eq_getElem hkn⟩
   have hc:wr.cell? ⟨bk,o+k,none⟩=some (.string x):=by
    rw [hbw.cell (p:=⟨bk,o+k,none⟩) hbk];exact hcells k x hx
   have hs:=Jj5 xs k x hx;have hle:=Jct xs (k+1);have hll:(joinP (xs.take (k+1))).length=(joinP (xs.take k)).length+1+x.size:=by rw [hs,List.length_append,List.length_append,Lib.size_eq];rfl
   go_wp2_with (go_at_call 252;refine (Any.Builder_WriteByte Tryz.lays167 Tryz.Builder_Extra_167 w.heap.size w.heap.size _ _ _ hI (by rw [Lib.byteCells_length];omega) hsz).mono ?_)
   rintro e W1 ⟨rfl,h1,b1⟩;have hsz1:w.heap.size≤W1.heap.size:=Nat.le_trans hsz b1.size;go_wp2_with (go_at_call 253;refine (Any.Builder_WriteString Tryz.lays166 Tryz.Builder_Extra_166 w.heap.size w.heap.size _ x _ (Or.inr h1) (by rw [List.length_append,Lib.byteCells_length];simp;omega) hsz1).mono ?_)
   rintro e W2 ⟨rfl,h2,b2⟩;go_wp2
   go_roundw
   case rel=>
    refine ⟨k+1,by omega,by go_num,?_,(hbw.trans b1).trans b2⟩
    rw [hs,Lib.byteCells_append,Lib.byteCells_append,←Lib.strCells_eq];have e8:((x.size:Int) % 256)=((UInt8.ofNat x.size).toNat:Int):=by simp
    rw [e8] at h2;exact Or.inr h2
   case measure=>simp [intOf];omega
  ·have hke:k=xs.length:=by omega
   subst hke;rw [List.take_length] at hI;go_wp2_with (go_at_call 252;refine (Any.Builder_WriteByte Tryz.lays167 Tryz.Builder_Extra_167 w.heap.size w.heap.size _ _ _ hI (by rw [Lib.byteCells_length];omega) hsz).mono ?_)
   rintro e W1 ⟨rfl,h1,b1⟩;have hsz1:w.heap.size≤W1.heap.size:=Nat.le_trans hsz b1.size
   have h1':Lib.IsBuilder 291 5 w.heap.size w.heap.size (Lib.byteCells (joinB xs)) W1:=by
    rw [joinB_P,Lib.byteCells_append];exact Or.inr h1
   go_wp2_with (go_at_call 254;refine (Any.Builder_String Tryz.lays169 Tryz.Builder_Extra_169 w.heap.size w.heap.size _ _ h1' (by rw [joinB_P];simp)).mono ?_)
   rintro e W2 ⟨rfl,b2⟩;go_wp2
   go_ret
   exact ⟨rfl,(hbw.trans b1).trans b2⟩
set_option maxHeartbeats 4000000 in
set_option maxRecDepth 1000000 in
theorem Tryz.joined_none (p:Option Addr) (c:Nat) (w:World):
  Calls Tryz.prog 183 #[.slice p 0 c] w fun e w'=>e= .returned (.string ⟨#[0]⟩)∧Below w.heap.size w w':=by
 go_enter Tryz.func183,Tryz.ntmps183
 go_wp2
 go_loopw [8] (fun i wr=>i= .int .i64 0∧Lib.IsBuilder 291 5 w.heap.size w.heap.size (Lib.byteCells []) wr∧Below w.heap.size w wr) (fun i _=>0)
 case atStart=>exact ⟨rfl,Lib.fresh_isBuilder 291 5 w,(Below.refl _ w).alloc (Nat.le_refl _) _⟩
 case round=>
  obtain ⟨rfl,hI,hbw⟩:=hrel;have hsz:w.heap.size≤wr.heap.size:=hbw.size;go_wp2_with (go_at_call 252;refine (Any.Builder_WriteByte Tryz.lays167 Tryz.Builder_Extra_167 w.heap.size w.heap.size _ _ _ hI (by rw [Lib.byteCells_length];decide) hsz).mono ?_)
  rintro e W1 ⟨rfl,h1,b1⟩;have h1':Lib.IsBuilder 291 5 w.heap.size w.heap.size (Lib.byteCells [0]) W1:=Or.inr h1;go_wp2_with (go_at_call 254;refine (Any.Builder_String Tryz.lays169 Tryz.Builder_Extra_169 w.heap.size w.heap.size _ _ h1' (by simp)).mono ?_)
  rintro e W2 ⟨rfl,b2⟩;go_wp2
  go_ret
  exact ⟨rfl,(hbw.trans b1).trans b2⟩
end Go.Proofs
namespace Go.Proofs
open Go.Shelf
def Tryz.lays106_ren:Go.Shelf.Ren:=⟨fun | 106=>211 | 213=>280 | 265=>308 | n=>n,fun | 9=>9 | 3=>3 | n=>n,fun | n=>n⟩
theorem Tryz.lays106:Go.Proofs.Lays.n106 Tryz.prog Tryz.lays106_ren:={
 mixed:=by kernel_rfl
 f106:=Tryz.func211.trans (congrArg some (by kernel_rfl))
 f213:=Tryz.func280.trans (congrArg some (by kernel_rfl))
 f265:=Tryz.func308.trans (congrArg some (by kernel_rfl))
 t3:=Tryz.underlying3
 a3:=Tryz.isAgg3
 z3:=Tryz.sizeOf3
 v3:=Tryz.zeroValue3
 t9:=Tryz.underlying9
 a9:=Tryz.isAgg9
 z9:=Tryz.sizeOf9
 v9:=Tryz.zeroValue9}
open Go.RowKit in
theorem Tryz.strings_Compare (a b:ByteArray) (w:World):
  Calls Tryz.prog 211 #[.string a,.string b] w fun e w'=>e= .returned (.int .i64 (Lib.compareBytes a.data.toList b.data.toList))∧w'=w:=Any.strings_Compare Tryz.lays106 a b w
def Tryz.laysGt8_ren:Go.Shelf.Ren:=⟨fun | 8=>138 | 13=>206 | 14=>207 | 16=>208 | 15=>220 | 29=>272 | 30=>289 | 42=>317 | 49=>326 | n=>n,fun | 20=>20 | 26=>165 | 36=>245 | 0=>0 | 38=>247 | 42=>254 | 3=>3 | 4=>4 | 47=>251 | 17=>17 | 33=>242 | 34=>243 | 89=>373 | 12=>12 | 56=>285 | 82=>367 | 5=>5 | 83=>368 | 84=>369 | 85=>339 | 86=>370 | 87=>371 | n=>n,fun | n=>n⟩
theorem Tryz.laysGt8:Go.Proofs.LaysGt.n8 Tryz.prog Tryz.laysGt8_ren:={
 mixed:=by kernel_rfl
 f8:=Tryz.func138.trans (congrArg some (by kernel_rfl))
 f13:=Tryz.func206.trans (congrArg some (by kernel_rfl))
 f14:=Tryz.func207.trans (congrArg some (by kernel_rfl))
 f15:=Tryz.func220.trans (congrArg some (by kernel_rfl))
 f16:=Tryz.func208.trans (congrArg some (by kernel_rfl))
 f29:=Tryz.func272.trans (congrArg some (by kernel_rfl))
 f30:=Tryz.func289.trans (congrArg some (by kernel_rfl))
 f42:=Tryz.func317.trans (congrArg some (by kernel_rfl))
 f49:=Tryz.func326.trans (congrArg some (by kernel_rfl))
 t0:=Tryz.underlying0
 a0:=Tryz.isAgg0
 z0:=Tryz.sizeOf0
 v0:=Tryz.zeroValue0
 i0:=by kernel_rfl
 t3:=Tryz.underlying3
 a3:=Tryz.isAgg3
 z3:=Tryz.sizeOf3
 v3:=Tryz.zeroValue3
 i3:=by kernel_rfl
 t4:=Tryz.underlying4
 a4:=Tryz.isAgg4
 z4:=Tryz.sizeOf4
 v4:=Tryz.zeroValue4
 i4:=by kernel_rfl
 t5:=Tryz.underlying5
 a5:=Tryz.isAgg5
 z5:=Tryz.sizeOf5
 v5:=Tryz.zeroValue5
 i5:=by kernel_rfl
 t12:=Tryz.underlying12
 a12:=Tryz.isAgg12
 z12:=Tryz.sizeOf12
 v12:=Tryz.zeroValue12
 i12:=by kernel_rfl
 t17:=Tryz.underlying17
 a17:=Tryz.isAgg17
 z17:=Tryz.sizeOf17
 v17:=Tryz.zeroValue17
 i17:=by kernel_rfl
 t20:=Tryz.underlying20
 a20:=Tryz.isAgg20
 z20:=Tryz.sizeOf20
 v20:=Tryz.zeroValue20
 i20:=by kernel_rfl
 t26:=Tryz.underlying165
 a26:=Tryz.isAgg165
 z26:=Tryz.sizeOf165
 v26:=Tryz.zeroValue165
 i26:=by kernel_rfl
 t33:=Tryz.underlying242
 a33:=Tryz.isAgg242
 z33:=Tryz.sizeOf242
 v33:=Tryz.zeroValue242
 i33:=by kernel_rfl
 t34:=Tryz.underlying243
 a34:=Tryz.isAgg243
 z34:=Tryz.sizeOf243
 v34:=Tryz.zeroValue243
 i34:=by kernel_rfl
 t36:=Tryz.underlying245
 a36:=Tryz.isAgg245
 z36:=Tryz.sizeOf245
 v36:=Tryz.zeroValue245
 i36:=by kernel_rfl
 t38:=Tryz.underlying247
 a38:=Tryz.isAgg247
 z38:=Tryz.sizeOf247
 v38:=Tryz.zeroValue247
 i38:=by kernel_rfl
 t42:=Tryz.underlying254
 a42:=Tryz.isAgg254
 z42:=Tryz.sizeOf254
 v42:=Tryz.zeroValue254
 i42:=by kernel_rfl
 t47:=Tryz.underlying251
 a47:=Tryz.isAgg251
 z47:=Tryz.sizeOf251
 v47:=Tryz.zeroValue251
 i47:=by kernel_rfl
 t56:=Tryz.underlying285
 a56:=Tryz.isAgg285
 z56:=Tryz.sizeOf285
 v56:=Tryz.zeroValue285
 i56:=by kernel_rfl
 t82:=Tryz.underlying367
 a82:=Tryz.isAgg367
 z82:=Tryz.sizeOf367
 v82:=Tryz.zeroValue367
 i82:=by kernel_rfl
 t83:=Tryz.underlying368
 a83:=Tryz.isAgg368
 z83:=Tryz.sizeOf368
 v83:=Tryz.zeroValue368
 i83:=by kernel_rfl
 t84:=Tryz.underlying369
 a84:=Tryz.isAgg369
 z84:=Tryz.sizeOf369
 v84:=Tryz.zeroValue369
 i84:=by kernel_rfl
 t85:=Tryz.underlying339
 a85:=Tryz.isAgg339
 z85:=Tryz.sizeOf339
 v85:=Tryz.zeroValue339
 i85:=by kernel_rfl
 t86:=Tryz.underlying370
 a86:=Tryz.isAgg370
 z86:=Tryz.sizeOf370
 v86:=Tryz.zeroValue370
 i86:=by kernel_rfl
 t87:=Tryz.underlying371
 a87:=Tryz.isAgg371
 z87:=Tryz.sizeOf371
 v87:=Tryz.zeroValue371
 i87:=by kernel_rfl
 t89:=Tryz.underlying373
 a89:=Tryz.isAgg373
 z89:=Tryz.sizeOf373
 v89:=Tryz.zeroValue373
 i89:=by kernel_rfl}
end Go.Proofs
namespace Go.Vm
set_option linter.unusedSectionVars false
section
variable {P:Program} {B:Base} {ρ:Rn} {M:Mem} {w:World} {H:AH}
theorem JqA (hH:J7 ρ H w) (hgl:JeK ρ P.globals.size):
  ∃ (B:Base) (ρ1:Rn),ρ.Le ρ1∧B.G=P.globals.size∧Qt B ρ1 ⟨[],0,H⟩ w∧ ∀ ρ' H' w',Qt B ρ' ⟨[],0,H'⟩ w'→Stp ρ w ρ' w'∧J7 ρ' H' w':=by
 let ρ1:Rn:={ρ with lo:=fun _ _=>none}
 have hle:ρ.Le ρ1:=⟨fun _ p h=>⟨p,h,rfl,rfl,rfl,rfl,rfl,Nat.le_refl _⟩,fun _ _ h=>h⟩
 have hH1:J7 ρ1 H w:=hH.of hle rfl rfl (Nat.le_refl _) (fun _ _ _=>⟨rfl,rfl⟩) hH.bnd fun _ _ h=>h
 let B:Base:=⟨P.globals.size,w,ρ1⟩
 exact ⟨B,ρ1,hle,rfl,⟨hH1,fun t g k xs h=>(by cases h),fun _ _ _=>rfl,fun t g t' g' b z z' h=>(by cases h),fun t g b z h=>(by cases h),Rn.Le.refl _,fun _ _ _=>rfl,fun _ _=>rfl,Nat.le_refl _,rfl,rfl,rfl,hgl⟩,
  fun ρ' H' w' hm=>⟨⟨hle.trans hm.le,hm.own,hm.frame,hm.sz,hm.os,hm.tape,hm.out⟩,hm.heap⟩⟩
theorem Jtc {t:TypeId} {n id ix ext:Nat} {ad:Addr} {V:AV} {v:Value} (ht:szT P t=some n) (hx:VP ρ (.pe id ix 0 ext) (.pointer (some ad))) (hv:V1 ρ V v) (k1:V.cells.length=n) (k3:stC M V (.pe id ix 0 ext)) (hm:Qt B ρ M w):
  ∃ w',(storeVar t ad v).run P w= .ok () w'∧Qt B ρ (stM M V (.pe id ix 0 ext)) w':=by
 obtain ⟨p,q1,q2,q3,q4,hx'⟩:=hx;injection hx' with hx'
 injection hx' with hx'
 subst hx';have hid:=JjX hm.heap q1;simp only [stM];simp only [stC] at k3;split at k3
 ·rename_i rw st z xs hob
  obtain ⟨rfl,s2,s3,s4⟩:=k3;obtain ⟨hz,p0,rest,hA,r1,r2,r3,r4,r5,r6⟩:=JbG hm.heap q1 hob;have hpp:=r4 (by omega)
  subst hpp;have hxx:=hA.hx;have hd: ∀ q,q∈xs.drop p.s→q.cells.length=z:=fun q hq=>hz q (List.mem_of_mem_drop hq)
  have hgd:(xs.drop p.s).getD (ix-p.s) .u=xs.getD ix .u:=by simp only [List.getD,List.getElem?_drop];rw [show p.s+(ix-p.s)=ix by omega]
  obtain ⟨f1,f2⟩:=JaJ (z:=z) (ix:=ix-p.s) (off:=0) (xs:=xs.drop p.s) (v:=V) hd (by simp;omega) hv.flatV (by rw [hgd];exact s4)
  rw [hgd] at f1 f2;have hel:(xs.getD ix .u).cells.length=z:=by simp only [List.getD,List.getElem?_eq_getElem s3,Option.getD_some];exact hz _ (List.getElem_mem s3)
  have hmul:(ix-p.s+1)*z≤(xs.length-p.s)*z:=Nat.mul_le_mul_right _ (by omega)
  rw [Nat.add_mul,Nat.one_mul] at hmul
  have:=hm.store (P:=P) (t:=t) (k:=(ix-p.s)*z+0) (xs':=xs.set ix (Wt (xs.getD ix .u) 0 V)) hid hA hz ht hv k1 (by simp)
   (fun q hq=>by
    rcases List.mem_or_eq_of_mem_set hq with hq | rfl
    ·exact hz q hq
    ·exact f2)
   (fun q hq=>by rw [(JaJ hz s3 hv.flatV s4).1] at hq;exact Jbq hq)
   (by rw [←f1,List.drop_set,if_neg (by omega)]) (by omega)
  rw [r1,Nat.add_assoc];exact this
 ·exact k3.elim
def swA (n:Option Nat) (H:AH) (a b:AV):AH:=(stM (stM ⟨[],0,H⟩ (ldX ⟨[],0,H⟩ n b) a) (ldX ⟨[],0,H⟩ n a) b).h
def swC (G:Nat) (n:Option Nat) (z:Nat) (H:AH) (g:Nat) (i j:Int) (id ix len:Nat):Prop:=
 g=G∧(0≤i∧i < len∧0≤j∧j < len)∧slZ H z (.sl id ix len)∧ldC ⟨[],0,H⟩ n (.pe id (ix+i.toNat) 0 (ix+len))∧ldC ⟨[],0,H⟩ n (.pe id (ix+j.toNat) 0 (ix+len))∧
  (ldX ⟨[],0,H⟩ n (.pe id (ix+j.toNat) 0 (ix+len))).cells.length=z∧(ldX ⟨[],0,H⟩ n (.pe id (ix+i.toNat) 0 (ix+len))).cells.length=z∧
  stC ⟨[],0,H⟩ (ldX ⟨[],0,H⟩ n (.pe id (ix+j.toNat) 0 (ix+len))) (.pe id (ix+i.toNat) 0 (ix+len))∧
  stC (stM ⟨[],0,H⟩ (ldX ⟨[],0,H⟩ n (.pe id (ix+j.toNat) 0 (ix+len))) (.pe id (ix+i.toNat) 0 (ix+len))) (ldX ⟨[],0,H⟩ n (.pe id (ix+i.toNat) 0 (ix+len))) (.pe id (ix+j.toNat) 0 (ix+len))
theorem JrF {id ix len i z:Nat} {b:Addr} {n c:Nat} (hx:VP ρ (.sl id ix len) (.slice (some b) n c)) (hi:i < len) (hz:slZ M.h z (.sl id ix len)) (hm:J7 ρ M.h w):VP ρ (.pe id (ix+i) 0 (ix+len)) (.pointer (some (b.add (i*z))))∧n=len:=by
 obtain ⟨p,q1,q2,q3,off,cap,q4,q5,q6,ad,had,hx'⟩:=hx;obtain rfl:ad=⟨p.b,off,none⟩:=had.resolve_right (by omega)
 injection hx' with h1 h2 h3
 injection h1 with h1
 subst h1 h2 h3;have hoff:off=p.o+(ix-p.s)*p.z:=by rcases q5 with q5 | ⟨q5,-⟩<;>omega
 obtain ⟨rw,st,xs,hob⟩:=Jk3 hm q1 hz;obtain ⟨-,-,-,-,r1,-⟩:=JbG hm q1 hob;refine ⟨⟨p,q1,by omega,by omega,q3,?_⟩,rfl⟩
 rw [hoff,r1,Jba,show ix+i-p.s=(ix-p.s)+i by omega,Nat.add_mul]
 simp [Nat.add_assoc]
open Go.Extern Go.Extern.Rtype Go.Lib in
theorem JnO (goS:Bool) {tE:TypeId} {n:Option Nat} {z g:Nat} {i j:Int} {id ix len:Nat} {s:Value} (hn:nT P tE=some n) (hz:szT P tE=some z) (hc:swC P.globals.size n z H g i j id ix len)
  (hH:J7 ρ H w) (hgl:JeK ρ P.globals.size) (hs:VP ρ (.sl id ix len) s):
  ∃ w',(ReflectliteSwapper.swap goS #[.int .i64 i,.int .i64 j,s,.pointer (some ⟨g,tE,none⟩)]).run P w= .ok (.tuple #[]) w'∧JgQ ρ w (.tp []) (swA n H (.pe id (ix+i.toNat) 0 (ix+len)) (.pe id (ix+j.toNat) 0 (ix+len))) (.returned (.tuple #[])) w':=by
 obtain ⟨rfl,⟨i0,i1,j0,j1⟩,c1,c2,c3,c4,c5,c6,c7⟩:=hc;obtain ⟨B,ρ1,hle,hB,hm,hback⟩:=JqA (P:=P) hH hgl;have hs1:=hs.mono hle
 obtain ⟨ad,m,cp,rfl⟩: ∃ ad m cp,s= .slice (some ad) m cp:=by
  obtain ⟨p,-,-,-,off,cap,-,-,-,ad,-,h⟩:=hs;exact ⟨_,_,_,h⟩
 obtain ⟨pi,hlen⟩:=JrF (i:=i.toNat) hs1 (by omega) c1 hm.heap
 obtain ⟨pj,-⟩:=JrF (i:=j.toNat) hs1 (by omega) c1 hm.heap
 subst hlen;obtain ⟨ai,vi,ei,li,ri⟩:=JjC hn c2 (show VE ρ1 (.pe ..) _ from VE.of (V2.of (V1.of (VA.of pi)))) hm
 obtain ⟨aj,vj,ej,lj,rj⟩:=JjC hn c3 (show VE ρ1 (.pe ..) _ from VE.of (V2.of (V1.of (VA.of pj)))) hm
 injection ei with ei
 injection ei with ei
 subst ei;injection ej with ej
 injection ej with ej
 subst ej;obtain ⟨w1,s1,m1⟩:=Jtc hz pi rj c4 c6 hm;obtain ⟨w2,s2,m2⟩:=Jtc hz pj ri c5 c7 m1
 have hfin: ∀ (M:Mem) V a,(stM M V (.pe id a 0 (ix+m)))=⟨M.l,M.g,(stM M V (.pe id a 0 (ix+m))).h⟩:=fun M V a=>by
  simp only [stM];split<;>rfl
 have e2:stM (stM ⟨[],0,H⟩ (ldX ⟨[],0,H⟩ n (.pe id (ix+j.toNat) 0 (ix+m))) (.pe id (ix+i.toNat) 0 (ix+m))) (ldX ⟨[],0,H⟩ n (.pe id (ix+i.toNat) 0 (ix+m))) (.pe id (ix+j.toNat) 0 (ix+m))=
   ⟨[],0,swA n H (.pe id (ix+i.toNat) 0 (ix+m)) (.pe id (ix+j.toNat) 0 (ix+m))⟩:=by
  have e1:=hfin ⟨[],0,H⟩ (ldX ⟨[],0,H⟩ n (.pe id (ix+j.toNat) 0 (ix+m))) (ix+i.toNat);have e2:=hfin (stM ⟨[],0,H⟩ (ldX ⟨[],0,H⟩ n (.pe id (ix+j.toNat) 0 (ix+m))) (.pe id (ix+i.toNat) 0 (ix+m))) (ldX ⟨[],0,H⟩ n (.pe id (ix+i.toNat) 0 (ix+m))) (ix+j.toNat);have l1:(stM ⟨[],0,H⟩ (ldX ⟨[],0,H⟩ n (.pe id (ix+j.toNat) 0 (ix+m))) (.pe id (ix+i.toNat) 0 (ix+m))).l=[]:=congrArg Mem.l e1;have g1:(stM ⟨[],0,H⟩ (ldX ⟨[],0,H⟩ n (.pe id (ix+j.toNat) 0 (ix+m))) (.pe id (ix+i.toNat) 0 (ix+m))).g=0:=congrArg Mem.g e1;rw [l1,g1] at e2;exact e2
 rw [e2] at m2;obtain ⟨b1,b2⟩:=hback _ _ _ m2;refine ⟨w2,?_,ρ1,b1,⟨#[],rfl,trivial⟩,b2⟩
 have i0': ¬ (i < 0):=by omega
 have i1': ¬ (i≥m):=by omega
 have j0': ¬ (j < 0):=by omega
 have j1': ¬ (j≥m):=by omega
 rw [rl_swap];cases goS<;>simp [i0',i1',j0',j1',ofHandle,handleType,ReflectliteSwapper.exchange,J5 hz,li,lj,s1,s2,Result.andThen]
end
set_option linter.unusedSectionVars false
theorem Jbg {ρ:Rn} {H:AH} {w w':World} {r:Value} {v:AV} (hH:J7 ρ H w) (hb:Go.RowKit.Below w.heap.size w w') (hv:V2 ρ v r):JgQ ρ w v H (.returned r) w':=
 ⟨ρ,⟨.refl ρ,fun _ _=>rfl,fun b hb' _=>hb.block b hb',hb.size,hb.os,hb.tape,hb.output⟩,hv,
  hH.of (.refl ρ) rfl rfl hb.size (fun b hb' _=>⟨rfl,hb.block b hb'⟩) (fun b hb'=>hH.bnd b (Nat.le_trans hb.size hb')) fun _ _ h=>h⟩
def Jfe:List (List UInt8)→List UInt8
 | []=>[0]
 | x::r=>UInt8.ofNat x.length::(x++Jfe r)
theorem Jiq: ∀ ls:List (List UInt8),Go.Proofs.joinB (ls.map fun l=>⟨l.toArray⟩)=Jfe ls
 | []=>rfl
 | x::r=>by
  simp only [List.map_cons,Go.Proofs.joinB,Jfe,Jiq r];rfl
theorem Jp8 (ls:List (List UInt8)):(Go.Proofs.joinP (ls.map fun l=>⟨l.toArray⟩)).length≤(Jfe ls).length:=by
 rw [←Jiq,Go.Proofs.joinB_P,List.length_append];omega
theorem JoF: ∀ ls:List (List UInt8),flat (ls.map AV.s)=ls.map AV.s
 | []=>rfl
 | x::r=>by simp only [List.map_cons,flat,AV.cells,JoF r];rfl
open Classical in
noncomputable def joT (vs:List AV) (H:AH):Option (AV×AH):=match vs with
 | [v]=>if Jid H v∧slZ H 1 v∧ ∃ ls:List (List UInt8),Yk H v=ls.map AV.s∧ls.length≤1099511627776∧(Jfe ls).length≤1099511627776 then some (.s (Jfe ((Yk H v).map AV.toS)),H) else none
 | _=>none
theorem JtL {H:AH} {v:AV} {ls:List (List UInt8)} (h1:Jid H v) (h2:slZ H 1 v) (h3:Yk H v=ls.map AV.s) (h4:ls.length≤1099511627776) (h5:(Jfe ls).length≤1099511627776):joT [v] H=some (.s (Jfe ls),H):=by
 unfold joT;simp only;rw [if_pos ⟨h1,h2,ls,h3,h4,h5⟩,h3,List.map_map];congr 3
 conv=>rhs;rw [←List.map_id ls]
 rfl
theorem Jq6 {ρ:Rn} {w:World} {vs:List AV} {H H':AH} {v:AV} {rargs:Array Value} (h:joT vs H=some (v,H')) (hH:J7 ρ H w) (ha:JO (V1 ρ) vs rargs.toList):Calls Go.Proofs.Tryz.prog 183 rargs w (JgQ ρ w v H'):=by
 unfold joT at h;split at h
 ·rename_i q
  split at h
  ·rename_i hc
   obtain ⟨c1,c2,ls,c3,c4,c5⟩:=hc;injection h with h
   injection h with e1 e2
   rw [c3,List.map_map,show ls.map (AV.toS∘AV.s)=ls by (conv=>rhs;rw [←List.map_id ls]);rfl] at e1
   subst e1 e2;obtain ⟨l⟩:=rargs;match l,ha with
   | [x],ha=>
    obtain ⟨h1,-⟩:=ha;cases q<;>simp only [Jid] at c1
    case ns=>
     have hx:x= .slice none 0 0:=h1;subst hx;have:ls=[]:=by simpa [Yk] using c3.symm
     subst this;refine (Go.Proofs.Tryz.joined_none none 0 w).mono ?_
     rintro e w' ⟨rfl,hb⟩;exact Jbg hH hb rfl
    case sl id ix len=>
     obtain ⟨rw,st,z,xs,b,off,cap,c,ty,fz,r1,r2,⟨ad,had,hx⟩,r4,r5,r6,r7⟩:=JfR hH (show VP ρ (.sl id ix len) x from h1) c1
     subst hx;simp only [slZ,r1] at c2;subst c2
     have hlen:len=ls.length:=by
      have:=congrArg List.length c3;simp only [Yk,r1,List.length_take,List.length_drop,List.length_map] at this;simp only [r1] at c1;omega
     rw [c3,JoF,Nat.mul_one] at r7;subst hlen;rcases had with rfl | h0
     rotate_left
     ·have hn:ls=[]:=List.eq_nil_of_length_eq_zero (by omega)
      subst hn;subst h0;refine (Go.Proofs.Tryz.joined_none (some ad) 0 w).mono ?_
      rintro e w' ⟨rfl,hb⟩;exact Jbg hH hb rfl
     have hcells: ∀ (j:Nat) y,(ls.map fun l=>(⟨l.toArray⟩:ByteArray))[j]? =some y→w.cell? ⟨b,off+j,none⟩=some (.string y):=fun j y hy=>by
      rw [List.getElem?_map] at hy;cases hj:ls[j]? with
      | none=>rw [hj] at hy;cases hy
      | some l=>
       rw [hj] at hy;injection hy with hy
       subst hy;have hlt:=(List.getElem?_eq_some_iff.1 hj).1;obtain ⟨z,g1,g2⟩:=r7.get j (.s l) (by rw [List.getElem?_map,hj];rfl)
       have g2:z= .string ⟨l.toArray⟩:=g2;subst g2;rw [List.getElem?_take,if_pos hlt,List.getElem?_drop,Array.getElem?_toList] at g1;rw [Go.Lib.cell_of_heap r5,g1]
     have:=Go.Proofs.Tryz.joined_some b off cap (ls.map fun l=>⟨l.toArray⟩) w hcells (Array.getElem?_eq_some_iff.1 r5).1 (by simpa using c4) (Nat.le_trans (Jp8 ls) c5)
     rw [List.length_map,Jiq] at this;refine this.mono ?_
     rintro e w' ⟨rfl,hb⟩;exact Jbg hH hb rfl
  ·cases h
 ·cases h
def cmT (vs:List AV) (H:AH):Option (AV×AH):=match vs with
 | [.s a,.s b]=>some (.i .i64 (Go.Lib.compareBytes a b),H)
 | _=>none
theorem JtH {ρ:Rn} {w:World} {vs:List AV} {H H':AH} {v:AV} {rargs:Array Value} (h:cmT vs H=some (v,H')) (hH:J7 ρ H w) (ha:JO (V1 ρ) vs rargs.toList):Calls Go.Proofs.Tryz.prog 211 rargs w (JgQ ρ w v H'):=by
 unfold cmT at h;split at h
 ·rename_i a b
  injection h with h
  injection h with e1 e2
  subst e1 e2;obtain ⟨l⟩:=rargs;match l,ha with
  | [x,y],ha=>
   obtain ⟨h1,h2,-⟩:=ha;have h1:x= .string ⟨a.toArray⟩:=h1;have h2:y= .string ⟨b.toArray⟩:=h2;subst h1 h2;refine (Go.Proofs.Tryz.strings_Compare ⟨a.toArray⟩ ⟨b.toArray⟩ w).mono ?_
   rintro e w' ⟨rfl,rfl⟩;exact Jbg hH (Go.RowKit.Below.refl _ _) rfl
 ·cases h
open Classical in
noncomputable def swT (P:Program) (vs:List AV) (H:AH):Option (AV×AH):=match vs with
 | [.i .i64 i,.i .i64 j,.sl id ix len,.hd g tE]=>match nT P tE,szT P tE with
  | some n,some z=>if swC P.globals.size n z H g i j id ix len then some (.tp [],swA n H (.pe id (ix+i.toNat) 0 (ix+len)) (.pe id (ix+j.toNat) 0 (ix+len))) else none
  | _,_=>none
 | _=>none
theorem Jon {P:Program} (goS:Bool) {ρ:Rn} {w:World} {vs:List AV} {H H':AH} {v:AV} {rargs:Array Value} (h:swT P vs H=some (v,H')) (hH:J7 ρ H w) (hgl:JeK ρ P.globals.size) (ha:JO (V1 ρ) vs rargs.toList):
  ∃ r w',(Extern.ReflectliteSwapper.swap goS rargs).run P w= .ok r w'∧JgQ ρ w v H' (.returned r) w':=by
 unfold swT at h;split at h
 ·rename_i i j id ix len g tE
  split at h
  ·rename_i n z hn hz
   split at h
   ·rename_i hc
    injection h with h
    injection h with e1 e2
    subst e1 e2;obtain ⟨l⟩:=rargs;match l,ha with
    | [x,y,s,hd],ha=>
     obtain ⟨h1,h2,h3,h4,-⟩:=ha;have h1:x= .int .i64 i:=h1;have h2:y= .int .i64 j:=h2;have h4:hd= .pointer (some ⟨g,tE,none⟩):=h4;subst h1 h2 h4;obtain ⟨w',g1,g2⟩:=JnO goS hn hz hc hH hgl (show VP ρ (.sl id ix len) s from h3)
     exact ⟨_,w',g1,g2⟩
   ·cases h
  ·cases h
 ·cases h
def Jul (vs:List AV) (H:AH):Option (AV×AH):=match vs with
 | [.i .i64 0,.i .i64 0]=>some (.tp [],H)
 | _=>none
set_option linter.unusedSectionVars false
def wkn (H:AH) (id:Nat):AH:=match H.at' id with
 | .arr rw st z xs=>H.set id (.arr rw (if st=0 then 0 else 2) z xs)
 | _=>H
theorem JmN {ρ:Rn} {H:AH} {w:World} (h:J7 ρ H w) (id:Nat):J7 ρ (wkn H id) w:=by
 unfold wkn;split
 ·rename_i rw st z xs ho
  refine ⟨fun i hi=> ?_,h.fr,h.bnd,h.ids⟩
  show Jfm ρ w i (if i=id then _ else H.at' i)
  by_cases e:i=id
  ·subst e
   rw [if_pos rfl];have:=h.rep i hi;rw [ho] at this;obtain ⟨hz,p,rest,hA⟩:=this;refine ⟨hz,p,rest,hA.hpl,hA.hx,hA.hs,hA.hz,hA.hv,hA.hown,fun h0=>hA.hst0 (by by_cases e:st=0;exact e;rw [if_neg e] at h0;cases h0),fun q hq=> ?_,hA.hcl⟩
   obtain ⟨a,b,c,d,f⟩:=hA.hrest q hq;refine ⟨a,b,c,d,fun h2=>f fun h2'=>h2 ?_⟩
   rw [h2'];rfl
  ·rw [if_neg e];exact h.rep i hi
 ·exact h
def swF (fb len:Nat):Nat:=if len=0 then 261 else if len=1 then 262 else fb
def Jn3 (G e id ix len:Nat):List AV:=if len≤1 then [] else [.sl id ix len,.hd G e]
noncomputable def stV (T:Tab) (G e fb id ix len g:Nat) (caps:List AV) (H:AH):Option (AV×AH):=match T 220 [.ag [.fn g caps,.fn (swF fb len) (Jn3 G e id ix len)],.i .i64 len] (wkn H id) with
 | some (.tp [],H')=>if len < 4611686018427387904 then some (.tp [],H') else none
 | _=>none
noncomputable def JqS (t:Nat) (h:(Go.Proofs.Tryz.prog.info? t).isSome=true):TypeInfo:=(Go.Proofs.Tryz.prog.info? t).get h
theorem JuN:Go.Proofs.Tryz.prog.funcs.findIdx? (·.name== "internal/reflectlite" ++ ".Swapper$" ++toString 1)=some 261:=by kernel_rfl
theorem JuW:Go.Proofs.Tryz.prog.funcs.findIdx? (·.name== "internal/reflectlite" ++ ".Swapper$" ++toString 2)=some 262:=by kernel_rfl
theorem Jvf:Go.Proofs.Tryz.prog.funcs.findIdx? (·.name== "internal/reflectlite" ++ ".Swapper$" ++toString 4)=some 264:=by kernel_rfl
theorem JrX:Go.Proofs.Tryz.prog.funcs.findIdx? (·.name== "internal/reflectlite" ++ ".Swapper$" ++toString 9)=some 269:=by kernel_rfl
theorem JoV:JqW Go.Proofs.Tryz.prog 220:=⟨_,Go.Proofs.Tryz.func220,by kernel_rfl,by kernel_rfl⟩
open Go.Proofs Go.Lib in
theorem Jl6 {T:Tab} (hT:Yj Go.Proofs.Tryz.prog T) {t e ke K fb:Nat} {i ie:TypeInfo} (hi:Go.Proofs.Tryz.prog.info? t=some i) (hd:i.desc= .slice e) (hpk:Go.Proofs.Tryz.prog.packed t=false) (hie:Go.Proofs.Tryz.prog.info? e=some ie) (hke: ∀ w,(Extern.Rtype.kind e).run Go.Proofs.Tryz.prog w= .ok ke w)
  (hK: ∀ n,2≤n→swapperK n ie ke=K) (hK2:2 < K) (hf:Go.Proofs.Tryz.prog.funcs.findIdx? (·.name== "internal/reflectlite" ++ ".Swapper$" ++toString K)=some fb)
  {ρ:Rn} {w:World} {id ix len g:Nat} {caps:List AV} {H H':AH} {v:AV} {rargs:Array Value} (h:stV T Go.Proofs.Tryz.prog.globals.size e fb id ix len g caps H=some (v,H')) (hH:J7 ρ H w) (hgl:JeK ρ Go.Proofs.Tryz.prog.globals.size)
  (ha:JO (V1 ρ) [.fs t id ix len,.fn g caps] rargs.toList):Calls Go.Proofs.Tryz.prog 138 rargs w (JgQ ρ w v H'):=by
 unfold stV at h;split at h
 ·rename_i H2 hT2
  split at h
  ·rename_i hlen
   injection h with h
   injection h with e1 e2
   subst e1 e2;obtain ⟨l⟩:=rargs;match l,ha with
   | [x,y],ha=>
    obtain ⟨h1,h2,-⟩:=ha;obtain ⟨p,p1,p2,p3,off,cap,p4,p5,p6,ad,had,hx⟩:=(show VP ρ (.fs t id ix len) x from h1)
    obtain ⟨rc,hy,hcaps⟩:=(show VA ρ (.fn g caps) y from h2)
    subst hx hy
    have hk:swapperK len ie ke=if len=0 then 1 else if len=1 then 2 else K:=by
     by_cases c0:len=0
     ·subst c0;rfl
     ·by_cases c1:len=1
      ·subst c1;rfl
      ·rw [if_neg c0,if_neg c1,hK len (by omega)]
    have hfi:Go.Proofs.Tryz.prog.funcs.findIdx? (·.name== "internal/reflectlite" ++ ".Swapper$" ++toString (swapperK len ie ke))=some (swF fb len):=by
     rw [hk];unfold swF;by_cases c0:len=0
     ·rw [if_pos c0,if_pos c0];exact JuN
     ·rw [if_neg c0,if_neg c0]
      by_cases c1:len=1
      ·rw [if_pos c1,if_pos c1];exact JuW
      ·rw [if_neg c1,if_neg c1];exact hf
    refine (Any.sort_SliceStable_of_stable Tryz.laysGt8 t e i ie hi hd hpk hie ke hke (some ad) len cap hlen (swF fb len) hfi (.func g) #[] rc w (fun w'=>JgQ ρ w (.tp []) H2 (.returned (.tuple #[])) w') ?_).mono ?_
    ·have hb:Go.RowKit.Below w.heap.size w (stableWorld Go.Proofs.Tryz.prog Tryz.laysGt8_ren t (some ad) len cap w):=((Go.RowKit.Below.refl _ w).alloc (Nat.le_refl _) _).alloc (by simp) _
     generalize stableWorld Go.Proofs.Tryz.prog Tryz.laysGt8_ren t (some ad) len cap w=w1 at hb ⊢;have hH1:J7 ρ (wkn H id) w1:=(JmN hH id).of (.refl ρ) rfl rfl hb.size (fun b hb' _=>⟨rfl,hb.block b hb'⟩) (fun b hb'=>hH.bnd b (Nat.le_trans hb.size hb')) fun _ _ h=>h
     refine (hT.body hT2 JoV ρ w1 _ hH1 hgl ?_).mono ?_
     ·refine ⟨⟨_,rfl,⟨rc,rfl,hcaps⟩,⟨_,rfl,?_⟩,trivial⟩,rfl,trivial⟩
      unfold Jn3 sliceBound;rw [hk];by_cases c1:len≤1
      ·rw [if_pos c1,if_pos (by by_cases c0:len=0;simp [c0];rw [if_neg c0,if_pos (by omega)];exact Nat.le_refl _)]
       trivial
      ·rw [if_neg c1,if_neg (by rw [if_neg (by omega),if_neg (by omega)];omega)]
       exact ⟨⟨p,p1,p2,p3,off,cap,p4,p5,p6,ad,had,rfl⟩,rfl,trivial⟩
     ·rintro e w' hB
      cases e with
      | returned r=>
       obtain ⟨ρ',s1,s2,s3⟩:=hB;obtain ⟨ys,rfl,hys⟩:=s2;obtain ⟨ys⟩:=ys;match ys,hys with
       | [],_=>
        refine ⟨rfl,ρ',⟨s1.le,fun b hb'=>s1.own b (Nat.lt_of_lt_of_le hb' hb.size),fun b hb' ho=>(s1.frame b (Nat.lt_of_lt_of_le hb' hb.size) ho).trans (hb.block b hb'),Nat.le_trans hb.size s1.sz,s1.os.trans hb.os,s1.tape.trans hb.tape,s1.out.trans hb.output⟩,⟨#[],rfl,trivial⟩,s3⟩
      | panicked _=>exact hB.elim
      | outgrown=>exact hB.elim
    ·rintro e w' ⟨rfl,hR⟩
     exact hR
  ·cases h
 ·cases h
set_option linter.unusedSectionVars false
noncomputable def gsz:Nat:=Go.Proofs.Tryz.prog.globals.size
noncomputable def stT (T:Tab) (vs:List AV) (H:AH):Option (AV×AH):=match vs with
 | [.fs t id ix len,.fn g caps]=>if t=81 then stV T gsz 9 264 id ix len g caps H else if t=26 then stV T gsz 134 269 id ix len g caps H else if t=41 then stV T gsz 40 269 id ix len g caps H else none
 | _=>none
def JtN (ie:TypeInfo) (ke:Nat):Nat:=
 if ie.hasPointers&&ie.bytes==8 then 3 else if ie.hasPointers&& (ke==24) then 4 else if ie.hasPointers then 9 else match ie.bytes with | 8=>5 | 4=>6 | 2=>7 | 1=>8 | _=>9
theorem Jky {ie:TypeInfo} {ke K:Nat} (h:JtN ie ke=K): ∀ n,2≤n→Lib.swapperK n ie ke=K:=fun n h2=>by
 have c:(n==0)=false:=by simp;omega
 have d:(n==1)=false:=by simp;omega
 rw [←h];simp only [Lib.swapperK,c,d,JtN];rfl
theorem Jr2 {T:Tab} (hT:Yj Go.Proofs.Tryz.prog T) {ρ:Rn} {w:World} {vs:List AV} {H H':AH} {v:AV} {rargs:Array Value} (h:stT T vs H=some (v,H')) (hH:J7 ρ H w) (hgl:JeK ρ Go.Proofs.Tryz.prog.globals.size) (ha:JO (V1 ρ) vs rargs.toList):
  Calls Go.Proofs.Tryz.prog 138 rargs w (JgQ ρ w v H'):=by
 unfold stT at h;split at h
 ·rename_i t id ix len g caps
  split at h
  ·rename_i ht
   subst ht;exact Jl6 hT (i:=JqS 81 (by kernel_rfl)) (ie:=JqS 9 (by kernel_rfl)) (ke:=24) (K:=4) (by kernel_rfl) (by kernel_rfl) (by kernel_rfl) (by kernel_rfl) (fun _=>by kernel_rfl) (Jky (by kernel_rfl)) (by decide) Jvf h hH hgl ha
  ·split at h
   ·rename_i ht
    subst ht;exact Jl6 hT (i:=JqS 26 (by kernel_rfl)) (ie:=JqS 134 (by kernel_rfl)) (ke:=25) (K:=9) (by kernel_rfl) (by kernel_rfl) (by kernel_rfl) (by kernel_rfl) (fun _=>by kernel_rfl) (Jky (by kernel_rfl)) (by decide) JrX h hH hgl ha
   ·split at h
    ·rename_i ht
     subst ht;exact Jl6 hT (i:=JqS 41 (by kernel_rfl)) (ie:=JqS 40 (by kernel_rfl)) (ke:=25) (K:=9) (by kernel_rfl) (by kernel_rfl) (by kernel_rfl) (by kernel_rfl) (fun _=>by kernel_rfl) (Jky (by kernel_rfl)) (by decide) JrX h hH hgl ha
    ·cases h
 ·cases h
noncomputable def Jff (T:Tab):Tab:=fun f vs H=>if f=183 then joT vs H else if f=211 then cmT vs H else if f=262 then Jul vs H else if f=264 then swT Go.Proofs.Tryz.prog vs H else if f=269 then swT Go.Proofs.Tryz.prog vs H else if f=138 then stT T vs H else none
theorem Jo5 {T:Tab} (hT:Yj Go.Proofs.Tryz.prog T):Yj Go.Proofs.Tryz.prog (Jff T):=by
 intro f vs H v H' h;unfold Jff at h;split at h
 ·rename_i hf;subst hf
  exact .inl ⟨⟨_,Go.Proofs.Tryz.func183,by kernel_rfl,by kernel_rfl⟩,fun ρ w rargs hH _ ha=>Jq6 h hH ha⟩
 split at h
 ·rename_i hf;subst hf
  exact .inl ⟨⟨_,Go.Proofs.Tryz.func211,by kernel_rfl,by kernel_rfl⟩,fun ρ w rargs hH _ ha=>JtH h hH ha⟩
 split at h
 ·rename_i hf;subst hf
  refine .inr fun ρ w rargs hH _ ha=> ?_
  unfold Jul at h;split at h
  ·injection h with h
   injection h with e1 e2
   subst e1 e2;obtain ⟨l⟩:=rargs;match l,ha with
   | [x,y],ha=>
    obtain ⟨h1,h2,-⟩:=ha;have h1:x= .int .i64 0:=h1;have h2:y= .int .i64 0:=h2;subst h1 h2;refine ⟨.tuple #[],w,?_,Jbg hH (Go.RowKit.Below.refl _ _) ⟨#[],rfl,trivial⟩⟩
    rw [run_callFunc_extern Go.Proofs.Tryz.func262 (by kernel_rfl) (by kernel_rfl) (by kernel_rfl) (e:=fun
     | #[.int .i64 0,.int .i64 0]=>pure (.tuple #[])
     | _=>Extern.ReflectliteSwapper.outOfRange) (by kernel_rfl)]
    rfl
  ·cases h
 split at h
 ·rename_i hf;subst hf
  refine .inr fun ρ w rargs hH hgl ha=> ?_
  obtain ⟨r,w',h1,h2⟩:=Jon true h hH hgl ha;refine ⟨r,w',?_,h2⟩
  rw [run_callFunc_extern Go.Proofs.Tryz.func264 (by kernel_rfl) (by kernel_rfl) (by kernel_rfl) (e:=Extern.ReflectliteSwapper.swap true) (by kernel_rfl),h1]
  rfl
 split at h
 ·rename_i hf;subst hf
  refine .inr fun ρ w rargs hH hgl ha=> ?_
  obtain ⟨r,w',h1,h2⟩:=Jon false h hH hgl ha;refine ⟨r,w',?_,h2⟩
  rw [run_callFunc_extern Go.Proofs.Tryz.func269 (by kernel_rfl) (by kernel_rfl) (by kernel_rfl) (e:=Extern.ReflectliteSwapper.swap false) (by kernel_rfl),h1]
  rfl
 split at h
 ·rename_i hf;subst hf
  exact .inl ⟨⟨_,Go.Proofs.Tryz.func138,by kernel_rfl,by kernel_rfl⟩,fun ρ w rargs hH hgl ha=>Jr2 hT h hH hgl ha⟩
 ·cases h
noncomputable def JK (l z:List (Nat×Fn)):Nat→Tab
 | 0=>fun _ _ _=>none
 | k+1=>fun n=>match lkF l n with
  | some F=>ent (JK l z k) F
  | none=>match lkF z n with
   | some F=>Jmf (JK l z k) F
   | none=>Jff (JK l z k) n
section
variable {l z:List (Nat×Fn)} {k n:Nat} {F:Fn}
theorem Jh3 (h:lkF l n=some F):JK l z (k+1) n=ent (JK l z k) F:=by
 show (match lkF l n with
  | some F=>ent (JK l z k) F
  | none=>_)=_
 rw [h]
theorem JoH (h:lkF l n=none) (h2:lkF z n=some F):JK l z (k+1) n=Jmf (JK l z k) F:=by
 show (match lkF l n with
  | some F=>ent (JK l z k) F
  | none=>match lkF z n with
   | some F=>Jmf (JK l z k) F
   | none=>Jff (JK l z k) n)=_
 rw [h]
 show (match lkF z n with
   | some F=>Jmf (JK l z k) F
   | none=>Jff (JK l z k) n)=_
 rw [h2]
theorem Jox (h:lkF l n=none) (h2:lkF z n=none):JK l z (k+1) n=Jff (JK l z k) n:=by
 show (match lkF l n with
  | some F=>ent (JK l z k) F
  | none=>match lkF z n with
   | some F=>Jmf (JK l z k) F
   | none=>Jff (JK l z k) n)=_
 rw [h]
 show (match lkF z n with
   | some F=>Jmf (JK l z k) F
   | none=>Jff (JK l z k) n)=_
 rw [h2]
theorem Jl9 (hl:Jow Go.Proofs.Tryz.prog l) (hz:Jow Go.Proofs.Tryz.prog z) (hmx:Go.Proofs.Tryz.prog.follows .mixedOrders=true): ∀ k,Yj Go.Proofs.Tryz.prog (JK l z k)
 | 0=> .none
 | k+1=>fun f vs H v H' h=>by
  have hk:=Jl9 hl hz hmx k;cases e:lkF l f with
  | some F=>
   have h1:=JqZ hk hmx (hl.lk e);refine h1 f vs H v H' ?_
   unfold Vm.ext;rw [if_pos rfl,←Jh3 (z:=z) e];exact h
  | none=>
   cases e2:lkF z f with
   | some F=>
    have h1:=JpK hk hk hmx (hz.lk e2);refine h1 f vs H v H' ?_
    unfold Vm.ext;rw [if_pos rfl,←JoH e e2];exact h
   | none=>
    rw [Jox e e2] at h;exact Jo5 hk f vs H v H' h
theorem JC {G:AV→AH→Prop} {vs:List AV} {H:AH} (e:lkF l n=some F) (h:Jt (JK l z k) F vs H G) (hd:JhS F.s=true:=by rfl): ∃ v H',JK l z (k+1) n vs H=some (v,H')∧G v H':=by
 have:=Jn1 (f:=n) h hd;rw [Jh3 e];unfold Vm.ext at this;simpa using this
theorem JaC {vs:List AV} {H:AH} {r:AV} (e:lkF l n=some F) (h:Jt (JK l z k) F vs H fun v H'=>H'=H∧v=r) (hd:JhS F.s=true:=by rfl):JK l z (k+1) n vs H=some (r,H):=by
 obtain ⟨v,H',h1,rfl,rfl⟩:=JC e h hd;exact h1
theorem Ju {vs:List AV} {H:AH} {v:AV} (h:lkF l n=none) (h2:lkF z n=some F) (hv:JpX v=true) (hr:Jt (JK l z k) F vs H fun v' H'=>v'=v∧QA H H'):JK l z (k+1) n vs H=some (v,H):=by
 rw [JoH h h2];exact Jp0 (f:=n) hv hr
theorem Jbr {vs:List AV} {H:AH} (h:lkF l n=none) (h2:lkF z n=none):JK l z (k+1) n vs H=Jff (JK l z k) n vs H:=by rw [Jox h h2]
end
end Go.Vm
