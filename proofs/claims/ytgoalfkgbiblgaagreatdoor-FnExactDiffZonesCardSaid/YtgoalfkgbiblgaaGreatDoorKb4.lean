import Derived.Test.YtgoalfkgbiblgaaGreatDoorKb3
import Derived.Test.YtgoalfkgbiblgaaGreatDoorProg
import Derived.KernelRfl
import Derived.Laws.Bits64
/- The rules of running, in conjunctions: what a call of simp names. Printed by wip/tools/bundle.py. -/
set_option linter.unusedVariables false
set_option linter.unusedSimpArgs false
set_option maxRecDepth 100000
open Nat renaming reduceEqDiff→Jc,reduceAdd→Ja,reduceLT→Jb
open Int renaming reduceToNat→Jd,reduceLE→Jf
namespace Go.Vm
theorem bS:(type_of% (@x_q))∧(type_of% (@AV.isG.eq_1))∧(type_of% (@AV.isG.eq_2))∧(type_of% (@AV.isG.eq_3))∧(type_of% (@Jim.eq_1))∧(type_of% (@x_o))∧(type_of% (@x_b))∧(type_of% (@x_k))∧(type_of% (@x_x))∧(type_of% (@x_r))∧(type_of% (@x_i))∧(type_of% (@x_p))∧(type_of% (@JZ.eq_1))∧(type_of% (@JZ.eq_2))∧(type_of% (@JZ.eq_3))∧(type_of% (@cfC.eq_1))∧(type_of% (@cfC.eq_2))∧(type_of% (@Qb.eq_1))∧(type_of% (@Jkh.eq_1))∧(type_of% (@Jkh.eq_2))∧(type_of% (@rv.eq_1))∧(type_of% (@rv.eq_2))∧(type_of% (@rh.eq_1))∧(type_of% (@rh.eq_2))∧(type_of% (@Bool.false_eq_true))∧(type_of% (@JN.eq_1))∧(type_of% (@JN.eq_2))∧(type_of% (@JN.eq_3))∧(type_of% (@JN.eq_4))∧(type_of% (@okO.eq_1))∧(type_of% (@okO.eq_2))∧(type_of% (@okO.eq_3))∧(type_of% (@okO.eq_4))∧(type_of% (@okO.eq_5))∧(type_of% (@okO.eq_6))∧(type_of% (@okO.eq_7))∧(type_of% (@okO.eq_8))∧(type_of% (@okO.eq_9))∧(type_of% (@okO.eq_10))∧(type_of% (@okO.eq_11))∧(type_of% (@okO.eq_12))∧(type_of% (@okO.eq_13))∧(type_of% (@okO.eq_14))∧(type_of% (@okO.eq_15))∧(type_of% (@okO.eq_16))∧(type_of% (@okO.eq_17))∧(type_of% (@okO.eq_18))∧(type_of% (@okO.eq_19))∧(type_of% (@okO.eq_20))∧(type_of% (@okO.eq_21))∧(type_of% (@okO.eq_22))∧(type_of% (@okO.eq_23))∧(type_of% (@okO.eq_24))∧(type_of% (@okO.eq_25))∧(type_of% (@okO.eq_26))∧(type_of% (@okO.eq_27))∧(type_of% (@okO.eq_28))∧(type_of% (@okO.eq_29))∧(type_of% (@okO.eq_30))∧(type_of% (@okO.eq_31))∧(type_of% (@okO.eq_32))∧(type_of% (@okO.eq_33))∧(type_of% (@okO.eq_34))∧(type_of% (@okO.eq_35))∧(type_of% (@okO.eq_36))∧(type_of% (@okO.eq_37))∧(type_of% (@okO.eq_38))∧(type_of% (@okO.eq_39))∧(type_of% (@okO.eq_40))∧(type_of% (@okO.eq_41))∧(type_of% (@okO.eq_42))∧(type_of% (@okO.eq_43))∧(type_of% (@okO.eq_44))∧(type_of% (@okO.eq_45))∧(type_of% (@okO.eq_46))∧(type_of% (@okO.eq_47))∧(type_of% (@okO.eq_48))∧(type_of% (@okO.eq_49))∧(type_of% (@okO.eq_50))∧(type_of% (@okO.eq_51))∧(type_of% (@vlO.eq_1))∧(type_of% (@vlO.eq_2))∧(type_of% (@vlO.eq_3))∧(type_of% (@vlO.eq_4))∧(type_of% (@vlO.eq_5))∧(type_of% (@vlO.eq_6))∧(type_of% (@vlO.eq_7))∧(type_of% (@vlO.eq_8))∧(type_of% (@vlO.eq_9))∧(type_of% (@vlO.eq_10))∧(type_of% (@vlO.eq_11))∧(type_of% (@vlO.eq_12))∧(type_of% (@vlO.eq_13))∧(type_of% (@vlO.eq_14))∧(type_of% (@vlO.eq_15))∧(type_of% (@vlO.eq_16))∧(type_of% (@vlO.eq_17))∧(type_of% (@vlO.eq_18))∧(type_of% (@vlO.eq_19))∧(type_of% (@vlO.eq_20))∧(type_of% (@vlO.eq_21))∧(type_of% (@vlO.eq_22))∧(type_of% (@vlO.eq_23))∧(type_of% (@vlO.eq_24))∧(type_of% (@vlO.eq_25))∧(type_of% (@vlO.eq_26))∧(type_of% (@vlO.eq_27))∧(type_of% (@vlO.eq_28))∧(type_of% (@vlO.eq_29))∧(type_of% (@vlO.eq_30))∧(type_of% (@vlO.eq_31))∧(type_of% (@vlO.eq_32))∧(type_of% (@vlO.eq_33))∧(type_of% (@vlO.eq_34))∧(type_of% (@vlO.eq_35))∧(type_of% (@vlO.eq_36))∧(type_of% (@vlO.eq_37))∧(type_of% (@vlO.eq_38))∧(type_of% (@vlO.eq_39))∧(type_of% (@vlO.eq_40))∧(type_of% (@vlO.eq_41))∧(type_of% (@vlO.eq_42))∧(type_of% (@vlO.eq_43))∧(type_of% (@vlO.eq_44))∧(type_of% (@vlO.eq_45))∧(type_of% (@vlO.eq_46))∧(type_of% (@vlO.eq_47))∧(type_of% (@vlO.eq_48))∧(type_of% (@vlO.eq_49))∧(type_of% (@vlO.eq_50))∧(type_of% (@vlO.eq_51))∧(type_of% (@mmO.eq_1))∧(type_of% (@mmO.eq_2))∧(type_of% (@mmO.eq_3))∧(type_of% (@mmO.eq_4))∧(type_of% (@mmO.eq_5))∧(type_of% (@mmO.eq_6))∧(type_of% (@mmO.eq_7))∧(type_of% (@mmO.eq_8))∧(type_of% (@mmO.eq_9))∧(type_of% (@mmO.eq_10))∧(type_of% (@mmO.eq_11))∧(type_of% (@mmO.eq_12))∧(type_of% (@mmO.eq_13))∧(type_of% (@mmO.eq_14))∧(type_of% (@mmO.eq_15))∧(type_of% (@mmO.eq_16))∧(type_of% (@mmO.eq_17))∧(type_of% (@mmO.eq_18))∧(type_of% (@mmO.eq_19))∧(type_of% (@mmO.eq_20))∧(type_of% (@dsO.eq_1))∧(type_of% (@dsO.eq_2))∧(type_of% (@dsO.eq_3))∧(type_of% (@dsO.eq_4))∧(type_of% (@dsO.eq_5))∧(type_of% (@dsO.eq_6))∧(type_of% (@dsO.eq_7))∧(type_of% (@dsO.eq_8))∧(type_of% (@dsO.eq_9))∧(type_of% (@dsO.eq_10))∧(type_of% (@dsO.eq_11))∧(type_of% (@dsO.eq_12))∧(type_of% (@dsO.eq_13))∧(type_of% (@dsO.eq_14))∧(type_of% (@dsO.eq_15))∧(type_of% (@dsO.eq_16))∧(type_of% (@dsO.eq_17))∧(type_of% (@dsO.eq_18))∧(type_of% (@dsO.eq_19))∧(type_of% (@dsO.eq_20))∧(type_of% (@dsO.eq_21))∧(type_of% (@dsO.eq_22))∧(type_of% (@dsO.eq_23))∧(type_of% (@dsO.eq_24))∧(type_of% (@dsO.eq_25))∧(type_of% (@dsO.eq_26))∧(type_of% (@dsO.eq_27))∧(type_of% (@dsO.eq_28))∧(type_of% (@dsO.eq_29))∧(type_of% (@dsO.eq_30))∧(type_of% (@dsO.eq_31))∧(type_of% (@dsO.eq_32))∧(type_of% (@dsO.eq_33))∧(type_of% (@dsO.eq_34))∧(type_of% (@dsO.eq_35))∧(type_of% (@dsO.eq_36))∧(type_of% (@dsO.eq_37))∧(type_of% (@dsO.eq_38))∧(type_of% (@dsO.eq_39))∧(type_of% (@dsO.eq_40))∧(type_of% (@dsO.eq_41))∧(type_of% (@dsO.eq_42))∧(type_of% (@dsO.eq_43))∧(type_of% (@dsO.eq_44))∧(type_of% (@dsO.eq_45))∧(type_of% (@dsO.eq_46))∧(type_of% (@dsO.eq_47))∧(type_of% (@dsO.eq_48))∧(type_of% (@dsO.eq_49))∧(type_of% (@dsO.eq_50))∧(type_of% (@dsO.eq_51))∧(type_of% (@J3.eq_1))∧(type_of% (@J3.eq_2))∧(type_of% (@args.eq_1))∧(type_of% (@args.eq_2))∧(type_of% (@evT.eq_1))∧(type_of% (@evT.eq_2))∧(type_of% (@evT.eq_3))∧(type_of% (@evT.eq_4))∧(type_of% (@evs.eq_1))∧(type_of% (@evs.eq_2))∧(type_of% (@evO.eq_1))∧(type_of% (@evO.eq_2))∧(type_of% (@look.eq_1))∧(type_of% (@look.eq_2))∧(type_of% (@JoP.eq_1))∧(type_of% (@JiM.eq_1))∧(type_of% (@JiM.eq_2))∧(type_of% (@JgV.eq_1))∧(type_of% (@JgV.eq_2))∧(type_of% (@JbT.eq_1))∧(type_of% (@JbT.eq_2))∧(type_of% (@JhY.eq_1))∧(type_of% (@JhY.eq_2))∧(type_of% (@JhY.eq_3))∧(type_of% (@JiO.eq_1))∧(type_of% (@JiO.eq_2))∧(type_of% (@JiO.eq_3))∧(type_of% (@Jd7.eq_1))∧(type_of% (@Jd7.eq_2))∧(type_of% (@Jd7.eq_3))∧(type_of% (@Jd7.eq_4))∧(type_of% (@Jd7.eq_5))∧(type_of% (@Zb.eq_1))∧(type_of% (@Zb.eq_2))∧(type_of% (@Zb.eq_3))∧(type_of% (@Zb.eq_4))∧(type_of% (@Zb.eq_5))∧(type_of% (@Zb.eq_6))∧(type_of% (@Zb.eq_7))∧(type_of% (@Zb.eq_8))∧(type_of% (@Zb.eq_9))∧(type_of% (@Zb.eq_10))∧(type_of% (@Zb.eq_11))∧(type_of% (@Zb.eq_12))∧(type_of% (@Zb.eq_13))∧(type_of% (@Zb.eq_14))∧(type_of% (@Ja9.eq_1))∧(type_of% (@Ja9.eq_2))∧(type_of% (@Ja9.eq_3))∧(type_of% (@Ja9.eq_4))∧(type_of% (@Ja9.eq_5))∧(type_of% (@Ja9.eq_6))∧(type_of% (@Ja9.eq_7))∧(type_of% (@Ja9.eq_8))∧(type_of% (@Ja4.eq_1))∧(type_of% (@Ja4.eq_2))∧(type_of% (@Ja4.eq_3))∧(type_of% (@Ja4.eq_4))∧(type_of% (@Ja4.eq_5))∧(type_of% (@Ja4.eq_6))∧(type_of% (@Ja4.eq_7))∧(type_of% (@Ja4.eq_8))∧(type_of% (@unC.eq_1))∧(type_of% (@unC.eq_2))∧(type_of% (@unC.eq_3))∧(type_of% (@unV.eq_1))∧(type_of% (@unV.eq_2))∧(type_of% (@unV.eq_3))∧(type_of% (@unV.eq_4))∧(type_of% (@AV.isI.eq_1))∧(type_of% (@AV.isI.eq_2))∧(type_of% (@AV.isB.eq_1))∧(type_of% (@AV.isB.eq_2))∧(type_of% (@AV.isS.eq_1))∧(type_of% (@AV.isS.eq_2))∧(type_of% (@AV.toI.eq_1))∧(type_of% (@AV.toI.eq_2))∧(type_of% (@AV.toK.eq_1))∧(type_of% (@AV.toK.eq_2))∧(type_of% (@AV.toS.eq_1))∧(type_of% (@AV.toS.eq_2))∧(type_of% (@Jar.eq_1))∧(type_of% (@Jar.eq_2))∧(type_of% (@o_b))∧(type_of% (@o_i))∧(type_of% (@o_s))∧(type_of% (@JtQ))∧(type_of% (@JtX))∧(type_of% (@JtO))∧(type_of% (@Jt5))∧(type_of% (@JtT))∧(type_of% (@Juc))∧(type_of% (@Jud))∧(type_of% (@JtV))∧(type_of% (@Jt0))∧(type_of% (@Jua))∧(type_of% (@q_b))∧(type_of% (@q_i))∧(type_of% (@q_s))∧(type_of% (@Jt1))∧(type_of% (@JtY))∧(type_of% (@Jue))∧(type_of% (@Jt3))∧(type_of% (@JtS))∧(type_of% (@Jt9))∧(type_of% (@Jub))∧(type_of% (@Jt4))∧(type_of% (@JtW))∧(type_of% (@Jt7))∧(type_of% (@Bool.and_true))∧(type_of% (@Bool.and_self))∧(type_of% (@Bool.true_and))∧(type_of% (@AV.b.injEq))∧(type_of% (@decide_eq_true_eq))∧(type_of% (@decide_eq_false_iff_not))∧(type_of% (@true_and))∧(type_of% (@and_true))∧(type_of% (@and_self)):=
 ⟨@x_q,@AV.isG.eq_1,@AV.isG.eq_2,@AV.isG.eq_3,@Jim.eq_1,@x_o,@x_b,@x_k,@x_x,@x_r,@x_i,@x_p,@JZ.eq_1,@JZ.eq_2,@JZ.eq_3,@cfC.eq_1,@cfC.eq_2,@Qb.eq_1,@Jkh.eq_1,@Jkh.eq_2,@rv.eq_1,@rv.eq_2,@rh.eq_1,@rh.eq_2,@Bool.false_eq_true,@JN.eq_1,@JN.eq_2,@JN.eq_3,@JN.eq_4,@okO.eq_1,@okO.eq_2,@okO.eq_3,@okO.eq_4,@okO.eq_5,@okO.eq_6,@okO.eq_7,@okO.eq_8,@okO.eq_9,@okO.eq_10,@okO.eq_11,@okO.eq_12,@okO.eq_13,@okO.eq_14,@okO.eq_15,@okO.eq_16,@okO.eq_17,@okO.eq_18,@okO.eq_19,@okO.eq_20,@okO.eq_21,@okO.eq_22,@okO.eq_23,@okO.eq_24,@okO.eq_25,@okO.eq_26,@okO.eq_27,@okO.eq_28,@okO.eq_29,@okO.eq_30,@okO.eq_31,@okO.eq_32,@okO.eq_33,@okO.eq_34,@okO.eq_35,@okO.eq_36,@okO.eq_37,@okO.eq_38,@okO.eq_39,@okO.eq_40,@okO.eq_41,@okO.eq_42,@okO.eq_43,@okO.eq_44,@okO.eq_45,@okO.eq_46,@okO.eq_47,@okO.eq_48,@okO.eq_49,@okO.eq_50,@okO.eq_51,@vlO.eq_1,@vlO.eq_2,@vlO.eq_3,@vlO.eq_4,@vlO.eq_5,@vlO.eq_6,@vlO.eq_7,@vlO.eq_8,@vlO.eq_9,@vlO.eq_10,@vlO.eq_11,@vlO.eq_12,@vlO.eq_13,@vlO.eq_14,@vlO.eq_15,@vlO.eq_16,@vlO.eq_17,@vlO.eq_18,@vlO.eq_19,@vlO.eq_20,@vlO.eq_21,@vlO.eq_22,@vlO.eq_23,@vlO.eq_24,@vlO.eq_25,@vlO.eq_26,@vlO.eq_27,@vlO.eq_28,@vlO.eq_29,@vlO.eq_30,@vlO.eq_31,@vlO.eq_32,@vlO.eq_33,@vlO.eq_34,@vlO.eq_35,@vlO.eq_36,@vlO.eq_37,@vlO.eq_38,@vlO.eq_39,@vlO.eq_40,@vlO.eq_41,@vlO.eq_42,@vlO.eq_43,@vlO.eq_44,@vlO.eq_45,@vlO.eq_46,@vlO.eq_47,@vlO.eq_48,@vlO.eq_49,@vlO.eq_50,@vlO.eq_51,@mmO.eq_1,@mmO.eq_2,@mmO.eq_3,@mmO.eq_4,@mmO.eq_5,@mmO.eq_6,@mmO.eq_7,@mmO.eq_8,@mmO.eq_9,@mmO.eq_10,@mmO.eq_11,@mmO.eq_12,@mmO.eq_13,@mmO.eq_14,@mmO.eq_15,@mmO.eq_16,@mmO.eq_17,@mmO.eq_18,@mmO.eq_19,@mmO.eq_20,@dsO.eq_1,@dsO.eq_2,@dsO.eq_3,@dsO.eq_4,@dsO.eq_5,@dsO.eq_6,@dsO.eq_7,@dsO.eq_8,@dsO.eq_9,@dsO.eq_10,@dsO.eq_11,@dsO.eq_12,@dsO.eq_13,@dsO.eq_14,@dsO.eq_15,@dsO.eq_16,@dsO.eq_17,@dsO.eq_18,@dsO.eq_19,@dsO.eq_20,@dsO.eq_21,@dsO.eq_22,@dsO.eq_23,@dsO.eq_24,@dsO.eq_25,@dsO.eq_26,@dsO.eq_27,@dsO.eq_28,@dsO.eq_29,@dsO.eq_30,@dsO.eq_31,@dsO.eq_32,@dsO.eq_33,@dsO.eq_34,@dsO.eq_35,@dsO.eq_36,@dsO.eq_37,@dsO.eq_38,@dsO.eq_39,@dsO.eq_40,@dsO.eq_41,@dsO.eq_42,@dsO.eq_43,@dsO.eq_44,@dsO.eq_45,@dsO.eq_46,@dsO.eq_47,@dsO.eq_48,@dsO.eq_49,@dsO.eq_50,@dsO.eq_51,@J3.eq_1,@J3.eq_2,@args.eq_1,@args.eq_2,@evT.eq_1,@evT.eq_2,@evT.eq_3,@evT.eq_4,@evs.eq_1,@evs.eq_2,@evO.eq_1,@evO.eq_2,@look.eq_1,@look.eq_2,@JoP.eq_1,@JiM.eq_1,@JiM.eq_2,@JgV.eq_1,@JgV.eq_2,@JbT.eq_1,@JbT.eq_2,@JhY.eq_1,@JhY.eq_2,@JhY.eq_3,@JiO.eq_1,@JiO.eq_2,@JiO.eq_3,@Jd7.eq_1,@Jd7.eq_2,@Jd7.eq_3,@Jd7.eq_4,@Jd7.eq_5,@Zb.eq_1,@Zb.eq_2,@Zb.eq_3,@Zb.eq_4,@Zb.eq_5,@Zb.eq_6,@Zb.eq_7,@Zb.eq_8,@Zb.eq_9,@Zb.eq_10,@Zb.eq_11,@Zb.eq_12,@Zb.eq_13,@Zb.eq_14,@Ja9.eq_1,@Ja9.eq_2,@Ja9.eq_3,@Ja9.eq_4,@Ja9.eq_5,@Ja9.eq_6,@Ja9.eq_7,@Ja9.eq_8,@Ja4.eq_1,@Ja4.eq_2,@Ja4.eq_3,@Ja4.eq_4,@Ja4.eq_5,@Ja4.eq_6,@Ja4.eq_7,@Ja4.eq_8,@unC.eq_1,@unC.eq_2,@unC.eq_3,@unV.eq_1,@unV.eq_2,@unV.eq_3,@unV.eq_4,@AV.isI.eq_1,@AV.isI.eq_2,@AV.isB.eq_1,@AV.isB.eq_2,@AV.isS.eq_1,@AV.isS.eq_2,@AV.toI.eq_1,@AV.toI.eq_2,@AV.toK.eq_1,@AV.toK.eq_2,@AV.toS.eq_1,@AV.toS.eq_2,@Jar.eq_1,@Jar.eq_2,@o_b,@o_i,@o_s,@JtQ,@JtX,@JtO,@Jt5,@JtT,@Juc,@Jud,@JtV,@Jt0,@Jua,@q_b,@q_i,@q_s,@Jt1,@JtY,@Jue,@Jt3,@JtS,@Jt9,@Jub,@Jt4,@JtW,@Jt7,@Bool.and_true,@Bool.and_self,@Bool.true_and,@AV.b.injEq,@decide_eq_true_eq,@decide_eq_false_iff_not,@true_and,@and_true,@and_self⟩
theorem bU:(type_of% (@x_q))∧(type_of% (@x_o))∧(type_of% (@x_b))∧(type_of% (@x_k))∧(type_of% (@x_x))∧(type_of% (@x_r))∧(type_of% (@Jwn))∧(type_of% (@JvC))∧(type_of% (@x_p))∧(type_of% (@Js5))∧(type_of% (@JvV))∧(type_of% (@Jrj))∧(type_of% (@JtM))∧(type_of% (@Jv6))∧(type_of% (@JwC))∧(type_of% (@Jwh))∧(type_of% (@JvL))∧(type_of% (@Jv4))∧(type_of% (@Jwk))∧(type_of% (@Jr0))∧(type_of% (@JvT))∧(type_of% (@Jtk))∧(type_of% (@Jse))∧(type_of% (@JvR))∧(type_of% (@JwD))∧(type_of% (@Jvw))∧(type_of% (@Jwr))∧(type_of% (@Jq7))∧(type_of% (@Jwq))∧(type_of% (@JwF))∧(type_of% (@Jsx))∧(type_of% (@Jwo))∧(type_of% (@Jtg))∧(type_of% (@Jre))∧(type_of% (@Jwc))∧(type_of% (@JvX))∧(type_of% (@Jtl))∧(type_of% (@Jsq))∧(type_of% (@Jvs))∧(type_of% (@Jvp))∧(type_of% (@JvD))∧(type_of% (@Jv1))∧(type_of% (@Jra))∧(type_of% (@Jvo))∧(type_of% (@Jtd))∧(type_of% (@Jwi))∧(type_of% (@Jwe))∧(type_of% (@JvK))∧(type_of% (@Jv8))∧(type_of% (@Jww))∧(type_of% (@JvN))∧(type_of% (@Jvu))∧(type_of% (@JvW))∧(type_of% (@Jrx))∧(type_of% (@Jvx))∧(type_of% (@Jv7))∧(type_of% (@JwA))∧(type_of% (@Jwt))∧(type_of% (@Jvz))∧(type_of% (@cfC.eq_1))∧(type_of% (@cfC.eq_2))∧(type_of% (@Qb.eq_1))∧(type_of% (@Jkh.eq_1))∧(type_of% (@Jkh.eq_2))∧(type_of% (@rv.eq_1))∧(type_of% (@rv.eq_2))∧(type_of% (@rh.eq_1))∧(type_of% (@rh.eq_2))∧(type_of% (@Bool.false_eq_true))∧(type_of% (@Jr1))∧(type_of% (@JvB))∧(type_of% (@JsN))∧(type_of% (@JtD))∧(type_of% (@Jwl))∧(type_of% (@JvA))∧(type_of% (@JvS))∧(type_of% (@JvZ))∧(type_of% (@Jwf))∧(type_of% (@JvQ))∧(type_of% (@JsU))∧(type_of% (@JvJ))∧(type_of% (@JsM))∧(type_of% (@Js8))∧(type_of% (@Jv0))∧(type_of% (@Jv5))∧(type_of% (@Jwb))∧(type_of% (@Jwg))∧(type_of% (@Jso))∧(type_of% (@Jwd))∧(type_of% (@JvE))∧(type_of% (@Jsu))∧(type_of% (@JvY))∧(type_of% (@Jrc))∧(type_of% (@Jrl))∧(type_of% (@Jws))∧(type_of% (@JwB))∧(type_of% (@JrM))∧(type_of% (@Js9))∧(type_of% (@Jv9))∧(type_of% (@Jvr))∧(type_of% (@JvF))∧(type_of% (@Jwu))∧(type_of% (@Jtj))∧(type_of% (@Jwz))∧(type_of% (@Jta))∧(type_of% (@JvM))∧(type_of% (@Jvv))∧(type_of% (@Jv2))∧(type_of% (@Jvy))∧(type_of% (@Jwp))∧(type_of% (@Jvt))∧(type_of% (@JvH))∧(type_of% (@Jwx))∧(type_of% (@Jry))∧(type_of% (@JvU))∧(type_of% (@Jwy))∧(type_of% (@Jwj))∧(type_of% (@JwE))∧(type_of% (@Jv3))∧(type_of% (@JsF))∧(type_of% (@JvG))∧(type_of% (@Jwm))∧(type_of% (@JvI))∧(type_of% (@JvP))∧(type_of% (@JtE))∧(type_of% (@okO.eq_1))∧(type_of% (@okO.eq_2))∧(type_of% (@okO.eq_3))∧(type_of% (@okO.eq_4))∧(type_of% (@okO.eq_5))∧(type_of% (@okO.eq_6))∧(type_of% (@okO.eq_7))∧(type_of% (@okO.eq_8))∧(type_of% (@okO.eq_9))∧(type_of% (@okO.eq_10))∧(type_of% (@okO.eq_11))∧(type_of% (@okO.eq_12))∧(type_of% (@okO.eq_13))∧(type_of% (@okO.eq_14))∧(type_of% (@okO.eq_15))∧(type_of% (@okO.eq_16))∧(type_of% (@okO.eq_17))∧(type_of% (@okO.eq_18))∧(type_of% (@okO.eq_19))∧(type_of% (@okO.eq_20))∧(type_of% (@okO.eq_21))∧(type_of% (@okO.eq_22))∧(type_of% (@okO.eq_23))∧(type_of% (@okO.eq_24))∧(type_of% (@okO.eq_25))∧(type_of% (@okO.eq_26))∧(type_of% (@okO.eq_27))∧(type_of% (@okO.eq_28))∧(type_of% (@okO.eq_29))∧(type_of% (@okO.eq_30))∧(type_of% (@okO.eq_31))∧(type_of% (@okO.eq_32))∧(type_of% (@okO.eq_33))∧(type_of% (@okO.eq_34))∧(type_of% (@okO.eq_35))∧(type_of% (@okO.eq_36))∧(type_of% (@okO.eq_37))∧(type_of% (@okO.eq_38))∧(type_of% (@okO.eq_39))∧(type_of% (@okO.eq_40))∧(type_of% (@okO.eq_41))∧(type_of% (@okO.eq_42))∧(type_of% (@okO.eq_43))∧(type_of% (@okO.eq_44))∧(type_of% (@okO.eq_45))∧(type_of% (@okO.eq_46))∧(type_of% (@okO.eq_47))∧(type_of% (@okO.eq_48))∧(type_of% (@okO.eq_49))∧(type_of% (@okO.eq_50))∧(type_of% (@okO.eq_51))∧(type_of% (@vlO.eq_1))∧(type_of% (@vlO.eq_2))∧(type_of% (@vlO.eq_3))∧(type_of% (@vlO.eq_4))∧(type_of% (@vlO.eq_5))∧(type_of% (@vlO.eq_6))∧(type_of% (@vlO.eq_7))∧(type_of% (@vlO.eq_8))∧(type_of% (@vlO.eq_9))∧(type_of% (@vlO.eq_10))∧(type_of% (@vlO.eq_11))∧(type_of% (@vlO.eq_12))∧(type_of% (@vlO.eq_13))∧(type_of% (@vlO.eq_14))∧(type_of% (@vlO.eq_15))∧(type_of% (@vlO.eq_16))∧(type_of% (@vlO.eq_17))∧(type_of% (@vlO.eq_18))∧(type_of% (@vlO.eq_19))∧(type_of% (@vlO.eq_20))∧(type_of% (@vlO.eq_21))∧(type_of% (@vlO.eq_22))∧(type_of% (@vlO.eq_23))∧(type_of% (@vlO.eq_24))∧(type_of% (@vlO.eq_25))∧(type_of% (@vlO.eq_26))∧(type_of% (@vlO.eq_27))∧(type_of% (@vlO.eq_28))∧(type_of% (@vlO.eq_29))∧(type_of% (@vlO.eq_30))∧(type_of% (@vlO.eq_31))∧(type_of% (@vlO.eq_32))∧(type_of% (@vlO.eq_33))∧(type_of% (@vlO.eq_34))∧(type_of% (@vlO.eq_35))∧(type_of% (@vlO.eq_36))∧(type_of% (@vlO.eq_37))∧(type_of% (@vlO.eq_38))∧(type_of% (@vlO.eq_39))∧(type_of% (@vlO.eq_40))∧(type_of% (@vlO.eq_41))∧(type_of% (@vlO.eq_42))∧(type_of% (@vlO.eq_43))∧(type_of% (@vlO.eq_44))∧(type_of% (@vlO.eq_45))∧(type_of% (@vlO.eq_46))∧(type_of% (@vlO.eq_47))∧(type_of% (@vlO.eq_48))∧(type_of% (@vlO.eq_49))∧(type_of% (@vlO.eq_50))∧(type_of% (@vlO.eq_51))∧(type_of% (@mmO.eq_1))∧(type_of% (@mmO.eq_2))∧(type_of% (@mmO.eq_3))∧(type_of% (@mmO.eq_4))∧(type_of% (@mmO.eq_5))∧(type_of% (@mmO.eq_6))∧(type_of% (@mmO.eq_7))∧(type_of% (@mmO.eq_8))∧(type_of% (@mmO.eq_9))∧(type_of% (@mmO.eq_10))∧(type_of% (@mmO.eq_11))∧(type_of% (@mmO.eq_12))∧(type_of% (@mmO.eq_13))∧(type_of% (@mmO.eq_14))∧(type_of% (@mmO.eq_15))∧(type_of% (@mmO.eq_16))∧(type_of% (@mmO.eq_17))∧(type_of% (@mmO.eq_18))∧(type_of% (@mmO.eq_19))∧(type_of% (@mmO.eq_20))∧(type_of% (@dsO.eq_1))∧(type_of% (@dsO.eq_2))∧(type_of% (@dsO.eq_3))∧(type_of% (@dsO.eq_4))∧(type_of% (@dsO.eq_5))∧(type_of% (@dsO.eq_6))∧(type_of% (@dsO.eq_7))∧(type_of% (@dsO.eq_8))∧(type_of% (@dsO.eq_9))∧(type_of% (@dsO.eq_10))∧(type_of% (@dsO.eq_11))∧(type_of% (@dsO.eq_12))∧(type_of% (@dsO.eq_13))∧(type_of% (@dsO.eq_14))∧(type_of% (@dsO.eq_15))∧(type_of% (@dsO.eq_16))∧(type_of% (@dsO.eq_17))∧(type_of% (@dsO.eq_18))∧(type_of% (@dsO.eq_19))∧(type_of% (@dsO.eq_20))∧(type_of% (@dsO.eq_21))∧(type_of% (@dsO.eq_22))∧(type_of% (@dsO.eq_23))∧(type_of% (@dsO.eq_24))∧(type_of% (@dsO.eq_25))∧(type_of% (@dsO.eq_26))∧(type_of% (@dsO.eq_27))∧(type_of% (@dsO.eq_28))∧(type_of% (@dsO.eq_29))∧(type_of% (@dsO.eq_30))∧(type_of% (@dsO.eq_31))∧(type_of% (@dsO.eq_32))∧(type_of% (@dsO.eq_33))∧(type_of% (@dsO.eq_34))∧(type_of% (@dsO.eq_35))∧(type_of% (@dsO.eq_36))∧(type_of% (@dsO.eq_37))∧(type_of% (@dsO.eq_38))∧(type_of% (@dsO.eq_39))∧(type_of% (@dsO.eq_40))∧(type_of% (@dsO.eq_41))∧(type_of% (@dsO.eq_42))∧(type_of% (@dsO.eq_43))∧(type_of% (@dsO.eq_44))∧(type_of% (@dsO.eq_45))∧(type_of% (@dsO.eq_46))∧(type_of% (@dsO.eq_47))∧(type_of% (@dsO.eq_48))∧(type_of% (@dsO.eq_49))∧(type_of% (@dsO.eq_50))∧(type_of% (@dsO.eq_51))∧(type_of% (@J3.eq_1))∧(type_of% (@J3.eq_2))∧(type_of% (@args.eq_1))∧(type_of% (@args.eq_2))∧(type_of% (@evT.eq_1))∧(type_of% (@evT.eq_2))∧(type_of% (@evT.eq_3))∧(type_of% (@evT.eq_4))∧(type_of% (@evs.eq_1))∧(type_of% (@evs.eq_2))∧(type_of% (@evO.eq_1))∧(type_of% (@evO.eq_2))∧(type_of% (@look.eq_1))∧(type_of% (@look.eq_2))∧(type_of% (@JoP.eq_1))∧(type_of% (@JiM.eq_1))∧(type_of% (@JiM.eq_2))∧(type_of% (@JgV.eq_1))∧(type_of% (@JgV.eq_2))∧(type_of% (@JbT.eq_1))∧(type_of% (@JbT.eq_2))∧(type_of% (@JhY.eq_1))∧(type_of% (@JhY.eq_2))∧(type_of% (@JhY.eq_3))∧(type_of% (@JiO.eq_1))∧(type_of% (@JiO.eq_2))∧(type_of% (@JiO.eq_3))∧(type_of% (@Jd7.eq_1))∧(type_of% (@Jd7.eq_2))∧(type_of% (@Jd7.eq_3))∧(type_of% (@Jd7.eq_4))∧(type_of% (@Jd7.eq_5))∧(type_of% (@Zb.eq_1))∧(type_of% (@Zb.eq_2))∧(type_of% (@Zb.eq_3))∧(type_of% (@Zb.eq_4))∧(type_of% (@Zb.eq_5))∧(type_of% (@Zb.eq_6))∧(type_of% (@Zb.eq_7))∧(type_of% (@Zb.eq_8))∧(type_of% (@Zb.eq_9))∧(type_of% (@Zb.eq_10))∧(type_of% (@Zb.eq_11))∧(type_of% (@Zb.eq_12))∧(type_of% (@Zb.eq_13))∧(type_of% (@Zb.eq_14))∧(type_of% (@Ja9.eq_1))∧(type_of% (@Ja9.eq_2))∧(type_of% (@Ja9.eq_3))∧(type_of% (@Ja9.eq_4))∧(type_of% (@Ja9.eq_5))∧(type_of% (@Ja9.eq_6))∧(type_of% (@Ja9.eq_7))∧(type_of% (@Ja9.eq_8))∧(type_of% (@Ja4.eq_1))∧(type_of% (@Ja4.eq_2))∧(type_of% (@Ja4.eq_3))∧(type_of% (@Ja4.eq_4))∧(type_of% (@Ja4.eq_5))∧(type_of% (@Ja4.eq_6))∧(type_of% (@Ja4.eq_7))∧(type_of% (@Ja4.eq_8))∧(type_of% (@unC.eq_1))∧(type_of% (@unC.eq_2))∧(type_of% (@unC.eq_3))∧(type_of% (@unV.eq_1))∧(type_of% (@unV.eq_2))∧(type_of% (@unV.eq_3))∧(type_of% (@unV.eq_4))∧(type_of% (@AV.isI.eq_1))∧(type_of% (@AV.isI.eq_2))∧(type_of% (@AV.isB.eq_1))∧(type_of% (@AV.isB.eq_2))∧(type_of% (@AV.isS.eq_1))∧(type_of% (@AV.isS.eq_2))∧(type_of% (@AV.toI.eq_1))∧(type_of% (@AV.toI.eq_2))∧(type_of% (@AV.toK.eq_1))∧(type_of% (@AV.toK.eq_2))∧(type_of% (@AV.toS.eq_1))∧(type_of% (@AV.toS.eq_2))∧(type_of% (@Jar.eq_1))∧(type_of% (@Jar.eq_2))∧(type_of% (@o_b))∧(type_of% (@o_i))∧(type_of% (@o_s))∧(type_of% (@JtQ))∧(type_of% (@JtX))∧(type_of% (@JtO))∧(type_of% (@Jt5))∧(type_of% (@JtT))∧(type_of% (@Juc))∧(type_of% (@Jud))∧(type_of% (@JtV))∧(type_of% (@Jt0))∧(type_of% (@Jua))∧(type_of% (@q_b))∧(type_of% (@q_i))∧(type_of% (@q_s))∧(type_of% (@Jt1))∧(type_of% (@JtY))∧(type_of% (@Jue))∧(type_of% (@Jt3))∧(type_of% (@JtS))∧(type_of% (@Jt9))∧(type_of% (@Jub))∧(type_of% (@Jt4))∧(type_of% (@JtW))∧(type_of% (@Jt7))∧(type_of% (@Bool.and_true))∧(type_of% (@Bool.and_self))∧(type_of% (@Bool.true_and))∧(type_of% (@AV.b.injEq))∧(type_of% (@decide_eq_true_eq))∧(type_of% (@decide_eq_false_iff_not))∧(type_of% (@true_and))∧(type_of% (@and_true))∧(type_of% (@and_self))∧(type_of% (@imp_self))∧(type_of% (@Jrk))∧(type_of% (@Jsy))∧(type_of% (@List.getD_cons_zero AV))∧(type_of% (@List.getD_cons_zero UInt8))∧(type_of% (@List.getD_cons_succ AV))∧(type_of% (@List.getD_cons_succ UInt8))∧(type_of% (@List.length_cons AV))∧(type_of% (@List.length_cons UInt8))∧(type_of% (@List.length_nil AV))∧(type_of% (@List.length_nil UInt8))∧(type_of% (@Nat.zero_add))∧(type_of% (@implies_true.{0}))∧(type_of% (@implies_true.{1}))∧(type_of% (@forall_const.{0}))∧(type_of% (@forall_const.{1}))∧(type_of% (@eq_self.{1}))∧(type_of% (@bne_self_eq_false.{0})):=
 ⟨@x_q,@x_o,@x_b,@x_k,@x_x,@x_r,@Jwn,@JvC,@x_p,@Js5,@JvV,@Jrj,@JtM,@Jv6,@JwC,@Jwh,@JvL,@Jv4,@Jwk,@Jr0,@JvT,@Jtk,@Jse,@JvR,@JwD,@Jvw,@Jwr,@Jq7,@Jwq,@JwF,@Jsx,@Jwo,@Jtg,@Jre,@Jwc,@JvX,@Jtl,@Jsq,@Jvs,@Jvp,@JvD,@Jv1,@Jra,@Jvo,@Jtd,@Jwi,@Jwe,@JvK,@Jv8,@Jww,@JvN,@Jvu,@JvW,@Jrx,@Jvx,@Jv7,@JwA,@Jwt,@Jvz,@cfC.eq_1,@cfC.eq_2,@Qb.eq_1,@Jkh.eq_1,@Jkh.eq_2,@rv.eq_1,@rv.eq_2,@rh.eq_1,@rh.eq_2,@Bool.false_eq_true,@Jr1,@JvB,@JsN,@JtD,@Jwl,@JvA,@JvS,@JvZ,@Jwf,@JvQ,@JsU,@JvJ,@JsM,@Js8,@Jv0,@Jv5,@Jwb,@Jwg,@Jso,@Jwd,@JvE,@Jsu,@JvY,@Jrc,@Jrl,@Jws,@JwB,@JrM,@Js9,@Jv9,@Jvr,@JvF,@Jwu,@Jtj,@Jwz,@Jta,@JvM,@Jvv,@Jv2,@Jvy,@Jwp,@Jvt,@JvH,@Jwx,@Jry,@JvU,@Jwy,@Jwj,@JwE,@Jv3,@JsF,@JvG,@Jwm,@JvI,@JvP,@JtE,@okO.eq_1,@okO.eq_2,@okO.eq_3,@okO.eq_4,@okO.eq_5,@okO.eq_6,@okO.eq_7,@okO.eq_8,@okO.eq_9,@okO.eq_10,@okO.eq_11,@okO.eq_12,@okO.eq_13,@okO.eq_14,@okO.eq_15,@okO.eq_16,@okO.eq_17,@okO.eq_18,@okO.eq_19,@okO.eq_20,@okO.eq_21,@okO.eq_22,@okO.eq_23,@okO.eq_24,@okO.eq_25,@okO.eq_26,@okO.eq_27,@okO.eq_28,@okO.eq_29,@okO.eq_30,@okO.eq_31,@okO.eq_32,@okO.eq_33,@okO.eq_34,@okO.eq_35,@okO.eq_36,@okO.eq_37,@okO.eq_38,@okO.eq_39,@okO.eq_40,@okO.eq_41,@okO.eq_42,@okO.eq_43,@okO.eq_44,@okO.eq_45,@okO.eq_46,@okO.eq_47,@okO.eq_48,@okO.eq_49,@okO.eq_50,@okO.eq_51,@vlO.eq_1,@vlO.eq_2,@vlO.eq_3,@vlO.eq_4,@vlO.eq_5,@vlO.eq_6,@vlO.eq_7,@vlO.eq_8,@vlO.eq_9,@vlO.eq_10,@vlO.eq_11,@vlO.eq_12,@vlO.eq_13,@vlO.eq_14,@vlO.eq_15,@vlO.eq_16,@vlO.eq_17,@vlO.eq_18,@vlO.eq_19,@vlO.eq_20,@vlO.eq_21,@vlO.eq_22,@vlO.eq_23,@vlO.eq_24,@vlO.eq_25,@vlO.eq_26,@vlO.eq_27,@vlO.eq_28,@vlO.eq_29,@vlO.eq_30,@vlO.eq_31,@vlO.eq_32,@vlO.eq_33,@vlO.eq_34,@vlO.eq_35,@vlO.eq_36,@vlO.eq_37,@vlO.eq_38,@vlO.eq_39,@vlO.eq_40,@vlO.eq_41,@vlO.eq_42,@vlO.eq_43,@vlO.eq_44,@vlO.eq_45,@vlO.eq_46,@vlO.eq_47,@vlO.eq_48,@vlO.eq_49,@vlO.eq_50,@vlO.eq_51,@mmO.eq_1,@mmO.eq_2,@mmO.eq_3,@mmO.eq_4,@mmO.eq_5,@mmO.eq_6,@mmO.eq_7,@mmO.eq_8,@mmO.eq_9,@mmO.eq_10,@mmO.eq_11,@mmO.eq_12,@mmO.eq_13,@mmO.eq_14,@mmO.eq_15,@mmO.eq_16,@mmO.eq_17,@mmO.eq_18,@mmO.eq_19,@mmO.eq_20,@dsO.eq_1,@dsO.eq_2,@dsO.eq_3,@dsO.eq_4,@dsO.eq_5,@dsO.eq_6,@dsO.eq_7,@dsO.eq_8,@dsO.eq_9,@dsO.eq_10,@dsO.eq_11,@dsO.eq_12,@dsO.eq_13,@dsO.eq_14,@dsO.eq_15,@dsO.eq_16,@dsO.eq_17,@dsO.eq_18,@dsO.eq_19,@dsO.eq_20,@dsO.eq_21,@dsO.eq_22,@dsO.eq_23,@dsO.eq_24,@dsO.eq_25,@dsO.eq_26,@dsO.eq_27,@dsO.eq_28,@dsO.eq_29,@dsO.eq_30,@dsO.eq_31,@dsO.eq_32,@dsO.eq_33,@dsO.eq_34,@dsO.eq_35,@dsO.eq_36,@dsO.eq_37,@dsO.eq_38,@dsO.eq_39,@dsO.eq_40,@dsO.eq_41,@dsO.eq_42,@dsO.eq_43,@dsO.eq_44,@dsO.eq_45,@dsO.eq_46,@dsO.eq_47,@dsO.eq_48,@dsO.eq_49,@dsO.eq_50,@dsO.eq_51,@J3.eq_1,@J3.eq_2,@args.eq_1,@args.eq_2,@evT.eq_1,@evT.eq_2,@evT.eq_3,@evT.eq_4,@evs.eq_1,@evs.eq_2,@evO.eq_1,@evO.eq_2,@look.eq_1,@look.eq_2,@JoP.eq_1,@JiM.eq_1,@JiM.eq_2,@JgV.eq_1,@JgV.eq_2,@JbT.eq_1,@JbT.eq_2,@JhY.eq_1,@JhY.eq_2,@JhY.eq_3,@JiO.eq_1,@JiO.eq_2,@JiO.eq_3,@Jd7.eq_1,@Jd7.eq_2,@Jd7.eq_3,@Jd7.eq_4,@Jd7.eq_5,@Zb.eq_1,@Zb.eq_2,@Zb.eq_3,@Zb.eq_4,@Zb.eq_5,@Zb.eq_6,@Zb.eq_7,@Zb.eq_8,@Zb.eq_9,@Zb.eq_10,@Zb.eq_11,@Zb.eq_12,@Zb.eq_13,@Zb.eq_14,@Ja9.eq_1,@Ja9.eq_2,@Ja9.eq_3,@Ja9.eq_4,@Ja9.eq_5,@Ja9.eq_6,@Ja9.eq_7,@Ja9.eq_8,@Ja4.eq_1,@Ja4.eq_2,@Ja4.eq_3,@Ja4.eq_4,@Ja4.eq_5,@Ja4.eq_6,@Ja4.eq_7,@Ja4.eq_8,@unC.eq_1,@unC.eq_2,@unC.eq_3,@unV.eq_1,@unV.eq_2,@unV.eq_3,@unV.eq_4,@AV.isI.eq_1,@AV.isI.eq_2,@AV.isB.eq_1,@AV.isB.eq_2,@AV.isS.eq_1,@AV.isS.eq_2,@AV.toI.eq_1,@AV.toI.eq_2,@AV.toK.eq_1,@AV.toK.eq_2,@AV.toS.eq_1,@AV.toS.eq_2,@Jar.eq_1,@Jar.eq_2,@o_b,@o_i,@o_s,@JtQ,@JtX,@JtO,@Jt5,@JtT,@Juc,@Jud,@JtV,@Jt0,@Jua,@q_b,@q_i,@q_s,@Jt1,@JtY,@Jue,@Jt3,@JtS,@Jt9,@Jub,@Jt4,@JtW,@Jt7,@Bool.and_true,@Bool.and_self,@Bool.true_and,@AV.b.injEq,@decide_eq_true_eq,@decide_eq_false_iff_not,@true_and,@and_true,@and_self,@imp_self,@Jrk,@Jsy,@List.getD_cons_zero AV,@List.getD_cons_zero UInt8,@List.getD_cons_succ AV,@List.getD_cons_succ UInt8,@List.length_cons AV,@List.length_cons UInt8,@List.length_nil AV,@List.length_nil UInt8,@Nat.zero_add,@implies_true.{0},@implies_true.{1},@forall_const.{0},@forall_const.{1},@eq_self.{1},@bne_self_eq_false.{0}⟩
theorem bT:(type_of% (@decide_true))∧(type_of% (@decide_false))∧(type_of% (@Bool.true_eq_false))∧(type_of% (@Bool.not_true))∧(type_of% (@Bool.not_false))∧(type_of% (@not_true_eq_false))∧(type_of% (@not_false_eq_true))∧(type_of% (@JgA.eq_1))∧(type_of% (@JgA.eq_2))∧(type_of% (@JgA.eq_3))∧(type_of% (@cond_true AV))∧(type_of% (@cond_true Bool))∧(type_of% (@cond_false AV))∧(type_of% (@cond_false Bool))∧(type_of% (@Jkd.eq_1))∧(type_of% (@Jkd.eq_2))∧(type_of% (@JE.eq_1))∧(type_of% (@JE.eq_2))∧(type_of% (@JQ.eq_1))∧(type_of% (@JQ.eq_2))∧(type_of% (@List.replicate.eq_1 AV))∧(type_of% (@List.replicate.eq_2 AV))∧(type_of% (@List.replicate.eq_1 UInt8))∧(type_of% (@List.replicate.eq_2 UInt8))∧(type_of% (@List.set.eq_1 AV))∧(type_of% (@List.set.eq_2 AV))∧(type_of% (@List.set.eq_3 AV))∧(type_of% (@List.set.eq_1 UInt8))∧(type_of% (@List.set.eq_2 UInt8))∧(type_of% (@List.set.eq_3 UInt8))∧(type_of% (@Mem.newL.eq_1))∧(type_of% (@Mem.keep.eq_1))∧(type_of% (@List.drop_zero AV))∧(type_of% (@List.drop_zero UInt8))∧(type_of% (@Int.le_refl))∧(type_of% (@Nat.sub_zero))∧(type_of% (@eq_self.{1}))∧(type_of% (@true_implies))∧(type_of% (@false_implies))∧(type_of% (@forall_const.{0}))∧(type_of% (@forall_const.{1}))∧(type_of% (@if_true.{1}))∧(type_of% (@if_false.{1})):=
 ⟨@decide_true,@decide_false,@Bool.true_eq_false,@Bool.not_true,@Bool.not_false,@not_true_eq_false,@not_false_eq_true,@JgA.eq_1,@JgA.eq_2,@JgA.eq_3,@cond_true AV,@cond_true Bool,@cond_false AV,@cond_false Bool,@Jkd.eq_1,@Jkd.eq_2,@JE.eq_1,@JE.eq_2,@JQ.eq_1,@JQ.eq_2,@List.replicate.eq_1 AV,@List.replicate.eq_2 AV,@List.replicate.eq_1 UInt8,@List.replicate.eq_2 UInt8,@List.set.eq_1 AV,@List.set.eq_2 AV,@List.set.eq_3 AV,@List.set.eq_1 UInt8,@List.set.eq_2 UInt8,@List.set.eq_3 UInt8,@Mem.newL.eq_1,@Mem.keep.eq_1,@List.drop_zero AV,@List.drop_zero UInt8,@Int.le_refl,@Nat.sub_zero,@eq_self.{1},@true_implies,@false_implies,@forall_const.{0},@forall_const.{1},@if_true.{1},@if_false.{1}⟩
theorem bV:(type_of% (@Mem.newL.eq_1))∧(type_of% (@Mem.getL.eq_1))∧(type_of% (@Mem.hasL.eq_1))∧(type_of% (@Qx.eq_1))∧(type_of% (@Qx.eq_2))∧(type_of% (@Jhp.eq_1))∧(type_of% (@Jhp.eq_2))∧(type_of% (@ZK.eq_1))∧(type_of% (@ZK.eq_2))∧(type_of% (@JJ.eq_1))∧(type_of% (@JJ.eq_2))∧(type_of% (@JdN.eq_1))∧(type_of% (@JdN.eq_2))∧(type_of% (@JkT))∧(type_of% (@JlD))∧(type_of% (@Jkl))∧(type_of% (@Jkv))∧(type_of% (@Jl4))∧(type_of% (@JkB))∧(type_of% (@partOf.eq_1))∧(type_of% (@partOf.eq_2))∧(type_of% (@JF.eq_1))∧(type_of% (@JF.eq_2))∧(type_of% (@Wt.eq_1))∧(type_of% (@Wt.eq_2))∧(type_of% (@Wu.eq_1))∧(type_of% (@Option.isSome_some (List AV)))∧(type_of% (@Option.getD_some (List AV)))∧(type_of% (@List.take_succ_cons AV))∧(type_of% (@List.take_succ_cons UInt8))∧(type_of% (@List.take_zero AV))∧(type_of% (@List.take_zero UInt8))∧(type_of% (@List.drop_succ_cons AV))∧(type_of% (@List.drop_succ_cons UInt8))∧(type_of% (@List.drop_zero AV))∧(type_of% (@List.drop_zero UInt8))∧(type_of% (@List.nil_append AV))∧(type_of% (@List.nil_append UInt8))∧(type_of% (@List.cons_append AV))∧(type_of% (@List.cons_append UInt8))∧(type_of% (@List.getD_cons_zero AV))∧(type_of% (@List.getD_cons_zero UInt8))∧(type_of% (@List.getD_cons_succ AV))∧(type_of% (@List.getD_cons_succ UInt8))∧(type_of% (@List.length_cons AV))∧(type_of% (@List.length_cons UInt8))∧(type_of% (@List.length_nil AV))∧(type_of% (@List.length_nil UInt8))∧(type_of% (@List.set_cons_zero AV))∧(type_of% (@List.set_cons_zero UInt8))∧(type_of% (@List.append_nil AV))∧(type_of% (@List.append_nil UInt8))∧(type_of% (@List.drop_nil AV))∧(type_of% (@List.drop_nil UInt8))∧(type_of% (@List.take_nil AV))∧(type_of% (@List.take_nil UInt8))∧(type_of% (@Nat.zero_add))∧(type_of% (@Nat.add_zero))∧(type_of% (@Nat.lt_add_one))∧(type_of% (@Nat.le_refl))∧(type_of% (@Nat.zero_le))∧(type_of% (@Nat.zero_lt_succ))∧(type_of% (@JG.eq_1))∧(type_of% (@JG.eq_2))∧(type_of% (@JH.eq_1))∧(type_of% (@JH.eq_2))∧(type_of% (@Qs.eq_1))∧(type_of% (@Qs.eq_2))∧(type_of% (@J6.eq_1))∧(type_of% (@J6.eq_2))∧(type_of% (@J6.eq_3))∧(type_of% (@J6.eq_4))∧(type_of% (@J6.eq_5))∧(type_of% (@J6.eq_6))∧(type_of% (@J6.eq_7))∧(type_of% (@J6.eq_8)):=
 ⟨@Mem.newL.eq_1,@Mem.getL.eq_1,@Mem.hasL.eq_1,@Qx.eq_1,@Qx.eq_2,@Jhp.eq_1,@Jhp.eq_2,@ZK.eq_1,@ZK.eq_2,@JJ.eq_1,@JJ.eq_2,@JdN.eq_1,@JdN.eq_2,@JkT,@JlD,@Jkl,@Jkv,@Jl4,@JkB,@partOf.eq_1,@partOf.eq_2,@JF.eq_1,@JF.eq_2,@Wt.eq_1,@Wt.eq_2,@Wu.eq_1,@Option.isSome_some (List AV),@Option.getD_some (List AV),@List.take_succ_cons AV,@List.take_succ_cons UInt8,@List.take_zero AV,@List.take_zero UInt8,@List.drop_succ_cons AV,@List.drop_succ_cons UInt8,@List.drop_zero AV,@List.drop_zero UInt8,@List.nil_append AV,@List.nil_append UInt8,@List.cons_append AV,@List.cons_append UInt8,@List.getD_cons_zero AV,@List.getD_cons_zero UInt8,@List.getD_cons_succ AV,@List.getD_cons_succ UInt8,@List.length_cons AV,@List.length_cons UInt8,@List.length_nil AV,@List.length_nil UInt8,@List.set_cons_zero AV,@List.set_cons_zero UInt8,@List.append_nil AV,@List.append_nil UInt8,@List.drop_nil AV,@List.drop_nil UInt8,@List.take_nil AV,@List.take_nil UInt8,@Nat.zero_add,@Nat.add_zero,@Nat.lt_add_one,@Nat.le_refl,@Nat.zero_le,@Nat.zero_lt_succ,@JG.eq_1,@JG.eq_2,@JH.eq_1,@JH.eq_2,@Qs.eq_1,@Qs.eq_2,@J6.eq_1,@J6.eq_2,@J6.eq_3,@J6.eq_4,@J6.eq_5,@J6.eq_6,@J6.eq_7,@J6.eq_8⟩
def JzB (z f:Nat):Fn:=⟨2,[(.t 4)],
  .q (.o [.mv 4 (.c (.b false))])
  (.q (.q (.o [.mv 6 (.t 0),
   .ln 7 (.t 6),
   .mv 8 (.t 1),
   .ln 9 (.t 8),
   .bn 10 .neq (.t 7) (.t 9)])
  (.i (.t 10) (.q (.o [.mv 4 (.c (.b false))])
  (.r))
  (.k)))
  (.q (.q (.o [.mv 5 (.c (.i .i64 0))])
  (.b 0 (.l [0,1,5] (.q (.q (.o [.mv 11 (.t 5),
   .mv 12 (.t 0),
   .ln 13 (.t 12),
   .bn 14 .lss (.t 11) (.t 13)])
  (.i (.t 14) (.k)
  (.x 0)))
  (.q (.b 1 (.q (.p [⟨.mv 17 (.t 0),[],false⟩,
   ⟨.mv 18 (.t 5),[],false⟩,
   ⟨.ia 19 (.t 17) (.t 18) z,[],false⟩,
   ⟨.ld 20 (.t 19) (some z),[],false⟩,
   ⟨.mv 21 (.t 1),[],false⟩,
   ⟨.mv 22 (.t 5),[],false⟩,
   ⟨.ia 23 (.t 21) (.t 22) z,[],false⟩,
   ⟨.ld 24 (.t 23) (some z),[],false⟩,
   ⟨.cl (some 25) f [(.t 20),(.t 24)],[],false⟩,
   ⟨.un 26 .not (.t 25),[],false⟩])
  (.i (.t 26) (.q (.o [.mv 4 (.c (.b false))])
  (.r))
  (.k))))
  (.o [.mv 15 (.t 5),
   .bn 16 .add (.t 15) (.c (.i .i64 1)),
   .mv 5 (.t 16)]))))))
  (.q (.o [.mv 4 (.c (.b true))])
  (.r))))⟩
structure Enc (α:Type) where
 z:Nat
 fn:α→List AV
 len: ∀ x,(fn x).length=z
def Enc.v {α:Type} (E:Enc α) (x:α):AV:= .ag (E.fn x)
section
variable {C:Tab} {α:Type} {E:Enc α}
abbrev Sx (H:AH) (E:Enc α) (a:AV) (xs:List α):Prop:=Sl H E.z a (xs.map E.v)
abbrev Mx (H:AH) (E:Enc α) (a:AV) (xs:List α):Prop:=Mn H E.z a (xs.map E.v)
theorem Enc.out (x:α):(E.v x).outs=true:=rfl
theorem Enc.cells (x:α):(E.v x).cells.length=E.z:=E.len x
theorem Jhw {xs:List α} {i:Nat} (h:i < xs.length):(xs.map E.v).getD i .u=E.v xs[i]:=by simp [List.getD,h]
theorem JoA (x:α):partOf (E.v x).cells 0 (some E.z)=E.v x:=by
 simp only [partOf,List.drop_zero,Enc.v,AV.cells];rw [List.take_of_length_le (Nat.le_of_eq (E.len x))]
theorem Sx.ia {H:AH} {a:AV} {xs:List α} (h:Sx H E a xs) {j:Int} (h0:0≤j) (hj:j < xs.length) (L:List Lv) (g:Nat) (hl:j.toNat < xs.length):slZ H E.z a∧iaC j a∧ldC ⟨L,g,H⟩ (some E.z) (iaV j.toNat a)∧ldX ⟨L,g,H⟩ (some E.z) (iaV j.toNat a)=E.v (xs[j.toNat]):=by
 obtain ⟨h1,h2,-,h4⟩:=Sl.ia h h0 (by simpa using hj)
 have:=h4 L g 0 (some E.z) (by rw [Jhw hl];simp [JF,Enc.cells])
 rw [fa0,Jhw hl,JoA] at this;exact ⟨h1,h2,this.1,this.2⟩
theorem Sx.at' {H:AH} {a:AV} {xs:List α} (h:Sx H E a xs) {j:Nat} (hj:j < xs.length):slZ H E.z a∧iaC (j:Int) a∧(∀ (L:List Lv) (g:Nat),ldC ⟨L,g,H⟩ (some E.z) (iaV j a))∧ ∀ (L:List Lv) (g:Nat),ldX ⟨L,g,H⟩ (some E.z) (iaV j a)=E.v (xs[j]):=by
 obtain ⟨h1,h2,-,-⟩:=h.ia (j:=j) (by omega) (by omega) [] 0 hj
 exact ⟨h1,h2,fun L g=>(h.ia (j:=j) (by omega) (by omega) L g hj).2.2.1,fun L g=>(h.ia (j:=j) (by omega) (by omega) L g hj).2.2.2⟩
theorem Sx.fd {H:AH} {a:AV} {xs:List α} (h:Sx H E a xs) {j:Int} (h0:0≤j) (hj:j < xs.length) {off:Nat} (ho:off < E.z) (L:List Lv) (g:Nat) (hl:j.toNat < xs.length):slZ H E.z a∧iaC j a∧faC (iaV j.toNat a)∧ldC ⟨L,g,H⟩ none (faV off (iaV j.toNat a))∧ldX ⟨L,g,H⟩ none (faV off (iaV j.toNat a))=(E.fn (xs[j.toNat])).getD off .u:=by
 obtain ⟨h1,h2,h3,h4⟩:=Sl.ia h h0 (by simpa using hj)
 have:=h4 L g off none (by rw [Jhw hl];simp only [JF,Enc.cells];exact ho)
 rw [Jhw hl] at this;exact ⟨h1,h2,h3,this.1,this.2⟩
theorem Sx.len {H:AH} {a:AV} {xs:List α} (h:Sx H E a xs):Jhx a= .i .i64 xs.length∧JlE a:=by
 have:=Sl.len h;rwa [List.length_map] at this
def Jzz (C:Tab) (f:Nat) (E:Enc α):Prop:= ∀ (x:α) (H:AH),C f [E.v x,E.v x] H=some (.b true,H)
theorem JzA {a b:AV} {xs:List α} {H:AH} {z f:Nat} (hz:E.z=z) (hC:Jzz C f E) (h:Sx H E a xs) (h':Sx H E b xs) (hn:xs.length≤1099511627776):Jt C (JzB z f) [a,b] H fun v H'=>H'=H∧v= .b true:=by
 subst hz;unfold Jt JzB;obtain ⟨h1,h2⟩:=h.len;obtain ⟨h3,h4⟩:=h'.len;simp only [bU,Jc,reduceCtorEq,Ja,bT,h1,h2,h3,h4];refine Jl (fun n e M=> ∃ i:Nat,i≤xs.length∧n=xs.length-i∧look e 0=a∧look e 1=b∧look e 5= .i .i64 i∧ ∃ L g,M=⟨L,g,H⟩) ?_ (n:=xs.length) ⟨0,by omega,by omega,rfl,rfl,rfl,_,_,rfl⟩
 rintro n e M ⟨i,hi,rfl,q0,q1,q5,L,g,rfl⟩;by_cases hlt:(i:Int) < xs.length
 ·have hil:i < xs.length:=by omega
  obtain ⟨b1,b2,b3,b4⟩:=h.ia (j:=i) (by omega) hlt (JJ [0,1,5] L) g hil
  obtain ⟨c1,c2,c3,c4⟩:=h'.ia (j:=i) (by omega) hlt (JJ [0,1,5] L) g hil
  have hcall:=hC xs[i] H;simp only [Jj] at b3 b4 c3 c4;simp only [bU,Jc,reduceCtorEq,Ja,bT,q0,q1,q5,h1,h2,hlt,Jj,b1,b2,b3,b4,c1,c2,c3,c4,hcall,Enc.out];exact ⟨xs.length- (i+1),by omega,i+1,by omega,rfl,by rw [w64 (by omega) (by omega)];rfl,_,_,rfl⟩
 ·simp only [bU,Jc,reduceCtorEq,bT,q0,q1,q5,h1,h2,hlt,Jr,rsC,rsV,Js]
end
section
variable {C:Tab} {α:Type} {E:Enc α}
theorem Mx.stf {H:AH} {a:AV} {cur:List α} {x x':α} {i off z:Nat} {v:AV} (h:Mx H E a (cur.set i x)) (hz:E.z=z) (hi:i < cur.length) (ho:off < z) (hv:v.cells=[v]) (hx:(E.fn x).set off v=E.fn x'):
  slZ H z a∧iaC (i:Int) a∧faC (iaV i a)∧(∀ (L:List Lv) (g:Nat),stC ⟨L,g,H⟩ v (faV off (iaV i a)))∧ ∃ H',(∀ (L:List Lv) (g:Nat),stM ⟨L,g,H⟩ v (faV off (iaV i a))=⟨L,g,H'⟩)∧Mx H' E a (cur.set i x')∧H'.n=H.n∧ ∀ j,¬ j∈idA a→H'.at' j=H.at' j:=by
 subst hz;have hl:((cur.set i x).map E.v).length=cur.length:=by simp
 have hg:((cur.set i x).map E.v).getD i .u=E.v x:=by simp [List.getD,hi]
 have hset:Wt (E.v x) off v=E.v x':=by
  simp only [Enc.v,Wt,Wu,hv,List.length_singleton];rw [←hx,List.set_eq_take_append_cons_drop,if_pos (by rw [E.len];exact ho)]
  simp
 have hmap:((cur.set i x).map E.v).set i (E.v x')=(cur.set i x').map E.v:=by simp [List.map_set]
 obtain ⟨h1,h2,h3,-⟩:=(Mn.sl h).ia (j:=i) (by omega) (by rw [hl];omega)
 rw [Int.toNat_natCast] at h3;obtain ⟨h4,H',h5,h6,h7,h8⟩:=Mn.st h (j:=i) (by omega) (by rw [hl];omega) (v:=v) (off:=off) (by rw [Int.toNat_natCast,hg,Enc.cells,hv];simp;omega) [] 0
 rw [Int.toNat_natCast,hg,hset,hmap] at h6;rw [Int.toNat_natCast] at h4 h5
 have hst: ∀ (L:List Lv) (g:Nat),stC ⟨L,g,H⟩ v (faV off (iaV i a))∧stM ⟨L,g,H⟩ v (faV off (iaV i a))=⟨L,g,H'⟩:=fun L g=>by
  have h':Mn H E.z a ((cur.set i x).map E.v):=h;generalize (cur.set i x).map E.v=els at h' hl;cases h' with
  | nil=>simp at hl;omega
  | own k1 k2=>
   refine ⟨h4,?_⟩
   simp only [iaV,faV,stM,k2] at h5 ⊢;have:=congrArg Mem.h h5;simp only at this;rw [this]
 exact ⟨h1,h2,h3,fun L g=>(hst L g).1,H',fun L g=>(hst L g).2,h6,h7,h8⟩
theorem Sx.fdn {H:AH} {a:AV} {xs:List α} (h:Sx H E a xs) {i off z:Nat} (hz:E.z=z) (hi:i < xs.length) (ho:off < z):slZ H z a∧iaC (i:Int) a∧faC (iaV i a)∧(∀ (L:List Lv) (g:Nat),ldC ⟨L,g,H⟩ none (faV off (iaV i a)))∧ ∀ (L:List Lv) (g:Nat),ldX ⟨L,g,H⟩ none (faV off (iaV i a))=(E.fn xs[i]).getD off .u:=by
 subst hz;obtain ⟨h1,h2,h3,-⟩:=h.fd (j:=i) (by omega) (by omega) ho [] 0 hi
 exact ⟨h1,h2,h3,fun L g=>(h.fd (j:=i) (by omega) (by omega) ho L g hi).2.2.2.1,fun L g=>(h.fd (j:=i) (by omega) (by omega) ho L g hi).2.2.2.2⟩
def mks (mk:Nat→α) (c k n:Nat):List α:=(List.range n).map fun j=>mk (k+c*j)
theorem Jik (mk:Nat→α) (c k n:Nat):(mks mk c k n).length=n:=by simp [mks]
theorem Jqo (mk:Nat→α) (c k n i:Nat) (h:i < (mks mk c k n).length):(mks mk c k n)[i]=mk (k+c*i):=by simp [mks]
theorem JmA {mk:Nat→α} {c k i:Nat} {xs:List α} (hi:i < xs.length):(mks mk c k i++xs.drop i).set i (mk (k+c*i))=mks mk c k (i+1)++xs.drop (i+1):=by
 rw [List.set_append_right _ _ (by rw [Jik];exact Nat.le_refl _),Jik,Nat.sub_self,List.drop_eq_getElem_cons hi,List.set_cons_zero]
 simp [mks,List.range_succ]
theorem JyV {mk:Nat→α} {c k i:Nat} {xs:List α} (hi:i < xs.length):(mks mk c k i++xs.drop i).length=xs.length∧(mks mk c k i++xs.drop i).set i xs[i]=mks mk c k i++xs.drop i:=by
 refine ⟨by simp [mks];omega,?_⟩
 rw [List.set_append_right _ _ (by rw [Jik];exact Nat.le_refl _),Jik,Nat.sub_self,List.drop_eq_getElem_cons hi,List.set_cons_zero]
structure Kp (ids:List Nat) (H H':AH):Prop where
 n:H.n≤H'.n
 at': ∀ i,i < H.n→ ¬ i∈ids→H'.at' i=H.at' i
theorem Kp.refl (ids:List Nat) (H:AH):Kp ids H H:=⟨Nat.le_refl _,fun _ _ _=>rfl⟩
theorem Kp.trans {ids:List Nat} {H H1 H2:AH} (h:Kp ids H H1) (h':Kp ids H1 H2):Kp ids H H2:=⟨Nat.le_trans h.n h'.n,fun i hi hn=>(h'.at' i (Nat.lt_of_lt_of_le hi h.n) hn).trans (h.at' i hi hn)⟩
theorem Kp.ext {ids:List Nat} {H H':AH} (h:Ext H H'):Kp ids H H':=⟨h.n,fun i hi _=>h.at' i hi⟩
theorem Kp.st {ids:List Nat} {H H':AH} (hn:H'.n=H.n) (h: ∀ j,¬ j∈ids→H'.at' j=H.at' j):Kp ids H H':=⟨Nat.le_of_eq hn.symm,fun i _ hi=>h i hi⟩
theorem Kp.mono {ids js:List Nat} {H H':AH} (h:Kp ids H H') (hs: ∀ i,i∈ids→i∈js):Kp js H H':=⟨h.n,fun i hi hn=>h.at' i hi fun hm=>hn (hs i hm)⟩
theorem Kp.put {ids:List Nat} {H0 H H':AH} (he:Ext H0 H) (h:Kp ids H H') (hi: ∀ i,i∈ids→H0.n≤i):Ext H0 H':=he.put hi h.n h.at'
theorem Kp.sl {ids:List Nat} {H H':AH} {z:Nat} {a:AV} {els:List AV} (h:Kp ids H H') (hs:Sl H z a els) (hd: ∀ i,i∈idA a→ ¬ i∈ids):Sl H' z a els:=hs.fr h.n fun i hi=>h.at' i (hs.lt i hi) (hd i hi)
theorem Kp.mn {ids:List Nat} {H H':AH} {z:Nat} {a:AV} {els:List AV} (h:Kp ids H H') (hs:Mn H z a els) (hd: ∀ i,i∈idA a→ ¬ i∈ids):Mn H' z a els:=hs.fr h.n fun i hi=>h.at' i (hs.lt i hi) (hd i hi)
def dgs (k:Nat) (out:List UInt8):List UInt8:=if h:k=0 then out else dgs (k / 10) (UInt8.ofNat (48+k % 10)::out)
termination_by k
decreasing_by omega
def mt (k:Nat):List UInt8:=if k=0 then [109,48] else 109::dgs k []
def JqR (C:Tab) (f:Nat):Prop:= ∀ (k:Nat) (H:AH),k≤1099511627776→ ∃ H',C f [.i .i64 k] H=some (.s (mt k),H')∧Ext H H'
end
structure JbE (H:AH) (id:Nat) (cs:List AV):Prop where
 lt:id < H.n
 at':H.at' id= .arr true 0 cs.length [.ag cs]
section
variable {H H':AH} {id off:Nat} {cs:List AV} {v:AV}
theorem Jpe {M:Mem}:ldC M (some 0) (.pv id off)=True:=by simp [ldC]
theorem Jpn {M:Mem}:ldX M (some 0) (.pv id off)= .ag []:=rfl
theorem JbE.ld (h:JbE H id cs) (ho:off < cs.length):(∀ (L:List Lv) (g:Nat),ldC ⟨L,g,H⟩ none (.pv id off))∧ ∀ (L:List Lv) (g:Nat),ldX ⟨L,g,H⟩ none (.pv id off)=cs.getD off .u:=by
 refine ⟨fun L g=> ?_,fun L g=> ?_⟩
 ·simp only [ldC,h.at']
  exact .inr ⟨trivial,by simpa [JF,flat,AV.cells] using ho⟩
 ·show ldV ⟨L,g,H⟩ none (.pv id off)=_
  simp only [ldV,h.at',partOf,flat,AV.cells,List.append_nil]
theorem JbE.lds (h:JbE H id cs):(∀ (L:List Lv) (g:Nat),ldC ⟨L,g,H⟩ (some cs.length) (.pv id 0))∧ ∀ (L:List Lv) (g:Nat),ldX ⟨L,g,H⟩ (some cs.length) (.pv id 0)=if cs.length=0 then .ag [] else .ag cs:=by
 refine ⟨fun L g=> ?_,fun L g=> ?_⟩
 ·simp only [ldC,h.at']
  exact .inr ⟨trivial,by simp [JF,flat,AV.cells]⟩
 ·cases hc:cs.length with
  | zero=>rfl
  | succ n=>
   show ldV ⟨L,g,H⟩ (some (n+1)) (.pv id 0)=_
   simp only [ldV,h.at',partOf,flat,AV.cells,List.append_nil,List.drop_zero];rw [List.take_of_length_le (by omega)]
   simp
theorem JbE.st (h:JbE H id cs) (ho:off < cs.length) (hv:v.cells=[v]):(∀ (L:List Lv) (g:Nat),stC ⟨L,g,H⟩ v (.pv id off))∧ ∃ H',(∀ (L:List Lv) (g:Nat),stM ⟨L,g,H⟩ v (.pv id off)=⟨L,g,H'⟩)∧JbE H' id (cs.set off v)∧H'.n=H.n∧ ∀ j,¬ j∈[id]→H'.at' j=H.at' j:=by
 refine ⟨fun L g=> ?_,H.set id (.arr true 0 cs.length [.ag (cs.set off v)]),fun L g=> ?_,⟨h.lt,?_⟩,rfl,fun j hj=>XQ fun e=>hj (by simp [e])⟩
 ·simp only [stC,h.at',hv,List.length_singleton]
  exact ⟨trivial,trivial,rfl,ho⟩
 ·simp only [stM,h.at',Wt,Wu,hv,List.length_singleton]
  rw [List.set_eq_take_append_cons_drop,if_pos ho];simp
 ·rw [Z9,List.length_set]
theorem JbE.fr (h:JbE H id cs) (hn:H.n≤H'.n) (ha:H'.at' id=H.at' id):JbE H' id cs:=⟨Nat.lt_of_lt_of_le h.lt hn,ha.trans h.at'⟩
theorem JbE.ext (h:JbE H id cs) (he:Ext H H'):JbE H' id cs:=h.fr he.n (he.at' _ h.lt)
theorem JbE.new {H:AH} {cs:List AV}:JbE (H.new (.arr true 0 cs.length [.ag cs])) H.n cs:=⟨by simp,QD⟩
end
def YZ:Fn:=⟨1,[(.t 2)],
  .q (.o [.mv 2 (.c (.i .i64 0))])
  (.q (.o [.mv 3 (.c (.i .i64 0))])
  (.q (.q (.o [.mv 4 (.c (.i .i64 0))])
  (.b 0 (.l [0,3,4] (.q (.q (.o [.mv 5 (.t 4),
   .mv 6 (.t 0),
   .lns 7 (.t 6),
   .bn 8 .lss (.t 5) (.t 7)])
  (.i (.t 8) (.k)
  (.x 0)))
  (.q (.b 1 (.o [.mv 11 (.t 3),
   .bn 12 .mul (.t 11) (.c (.i .i64 256)),
   .mv 13 (.t 0),
   .mv 14 (.t 4),
   .ix 15 (.t 13) (.t 14),
   .ci 16 .i64 (.t 15),
   .bn 17 .add (.t 12) (.t 16),
   .mv 3 (.t 17)]))
  (.o [.mv 9 (.t 4),
   .bn 10 .add (.t 9) (.c (.i .i64 1)),
   .mv 4 (.t 10)]))))))
  (.q (.o [.mv 18 (.t 3),
   .mv 2 (.t 18)])
  (.r))))⟩
abbrev ZT:Nat:=170
theorem JgC:Qi Go.Proofs.Tryz.prog YZ 170=true:=by kernel_rfl
theorem mixed:Go.Proofs.Tryz.prog.follows .mixedOrders=true:=by kernel_rfl
def num:List UInt8→Nat→Nat
 | [],n=>n
 | b::r,n=>num r (n*256+b.toNat)
theorem Jk7: ∀ (l:List UInt8) (b:UInt8) (n:Nat),num (l++[b]) n=num l n*256+b.toNat
 | [],b,n=>rfl
 | c::r,b,n=>Jk7 r b _
theorem JoD: ∀ (l:List UInt8) (n k:Nat),n < 256 ^ k→num l n < 256 ^ (k+l.length)
 | [],n,k,h=>h
 | b::r,n,k,h=>by
  have hb:=b.toNat_lt;have:=JoD r (n*256+b.toNat) (k+1) (by rw [Nat.pow_succ];omega)
  rw [List.length_cons,show k+(r.length+1)=k+1+r.length by omega]
  exact this
def Jgq (C:Tab) (f:Nat):Prop:= ∀ l H,l.length≤7→C f [.s l] H=some (.i .i64 ((num l 0:Nat):Int),H)
theorem Je0 {t g:Nat} {x:AV} {L:List Lv} {H:AH}:QE ⟨⟨t,g,0,[x]⟩::L,g+1,H⟩ (.ll t g 1 1)=[x]∧Je7 ⟨⟨t,g,0,[x]⟩::L,g+1,H⟩ 1 (.ll t g 1 1):=by
 simp [QE,Je7,Mem.getL,Mem.hasL,Qx]
section
variable {C:Tab}
theorem JmF {l:List UInt8} {H:AH} (hl:l.length≤7):Jt C YZ [.s l] H fun v H'=>v= .i .i64 ((num l 0:Nat):Int)∧H'=H:=by
 unfold Jt YZ;simp only [bS];refine Jl (fun n e M=> ∃ i:Nat,i≤l.length∧n=l.length-i∧look e 0= .s l∧look e 3= .i .i64 ((num (l.take i) 0:Nat):Int)∧look e 4= .i .i64 i∧ ∃ L g,M=⟨L,g,H⟩) ?_ (n:=l.length) ⟨0,by omega,by omega,rfl,rfl,rfl,_,_,rfl⟩
 rintro n e M ⟨i,hi,rfl,q0,q3,q4,L,g,rfl⟩;simp only [bS,reduceIte,Jc,q0,q3,q4,Mem.keep];refine ⟨fun hlt=> ?_,fun hge=> ?_⟩
 ·have hil:i < l.length:=by omega
  have hb:=(l[i]).toNat_lt;have hlt:=JoD (l.take i) 0 0 (by simp)
  have hle:256 ^ (0+(l.take i).length)≤256 ^ 6:=Nat.pow_le_pow_right (by omega) (by simp;omega)
  have e256:(256:Nat) ^ 6=281474976710656:=by decide
  have hg:l.getD i 0=l[i]:=by simp [List.getD,List.getElem?_eq_getElem hil]
  simp only [Jj,hg];refine ⟨⟨by omega,by omega⟩,l.length- (i+1),by omega,i+1,by omega,rfl,?_,by rw [w64 (by omega) (by omega)];rfl,_,_,rfl⟩
  rw [←List.take_append_getElem hil,Jk7,w64 (x:=_*256) (by omega) (by omega),w64 (x:=((l[i]).toNat:Int)) (by omega) (by omega),w64 (by omega) (by omega)]
  congr 1
 ·have hil:i=l.length:=by omega
  subst hil;simp only [bS,reduceIte,Jc,Jr,rsC,rsV,Js,List.take_length]
end
def Zp:Fn:=⟨2,[(.t 4)],
  .q (.o [.mv 4 (.c (.b false))])
  (.q (.o [.mv 5 (.t 0),
   .bn 6 .geq (.t 5) (.c (.i .i64 0)),
   .mv 7 (.t 6),
   .gd 7 true (.mv 8 (.t 0)),
   .gd 7 true (.mv 9 (.t 1)),
   .gd 7 true (.bn 10 .leq (.t 8) (.t 9)),
   .pk 11 (.t 7) (.t 10) (.c (.b false)),
   .mv 4 (.t 11)])
  (.r))⟩
abbrev Zv:Nat:=77
theorem Jg9:Qi Go.Proofs.Tryz.prog Zp 77=true:=by kernel_rfl
def Y5:Fn:=⟨3,[(.t 6)],
  .q (.o [.mv 6 (.c (.b false))])
  (.q (.o [.mv 7 (.t 0),
   .mv 8 (.t 1),
   .bn 9 .geq (.t 7) (.t 8),
   .mv 10 (.t 9),
   .gd 10 true (.mv 11 (.t 0)),
   .gd 10 true (.mv 12 (.t 2)),
   .gd 10 true (.bn 13 .leq (.t 11) (.t 12)),
   .pk 14 (.t 10) (.t 13) (.c (.b false)),
   .mv 6 (.t 14)])
  (.r))⟩
abbrev XP:Nat:=82
theorem Jgc:Qi Go.Proofs.Tryz.prog Y5 82=true:=by kernel_rfl
def JxU:Fn:=⟨2,[(.t 4)],
  .q (.o [.lbx 2 (.t 0),
   .lbx 3 (.t 1),
   .mv 4 (.c (.b false))])
  (.q (.q (.o [.fa 5 (.t 2) 0,
   .ld 6 (.t 5) none,
   .fa 7 (.t 3) 0,
   .ld 8 (.t 7) none,
   .bn 9 .neq (.t 6) (.t 8)])
  (.i (.t 9) (.q (.o [.mv 4 (.c (.b false))])
  (.r))
  (.k)))
  (.q (.q (.o [.fa 10 (.t 2) 1,
   .ld 11 (.t 10) none,
   .fa 12 (.t 3) 1,
   .ld 13 (.t 12) none,
   .bn 14 .neq (.t 11) (.t 13)])
  (.i (.t 14) (.q (.o [.mv 4 (.c (.b false))])
  (.r))
  (.k)))
  (.q (.q (.o [.fa 15 (.t 2) 2,
   .ld 16 (.t 15) none,
   .fa 17 (.t 3) 2,
   .ld 18 (.t 17) none,
   .bn 19 .neq (.t 16) (.t 18)])
  (.i (.t 19) (.q (.o [.mv 4 (.c (.b false))])
  (.r))
  (.k)))
  (.q (.q (.o [.fa 20 (.t 2) 3,
   .ld 21 (.t 20) none,
   .fa 22 (.t 3) 3,
   .ld 23 (.t 22) none,
   .bn 24 .neq (.t 21) (.t 23)])
  (.i (.t 24) (.q (.o [.mv 4 (.c (.b false))])
  (.r))
  (.k)))
  (.q (.q (.o [.fa 25 (.t 2) 4,
   .ld 26 (.t 25) none,
   .fa 27 (.t 3) 4,
   .ld 28 (.t 27) none,
   .bn 29 .neq (.t 26) (.t 28)])
  (.i (.t 29) (.q (.o [.mv 4 (.c (.b false))])
  (.r))
  (.k)))
  (.q (.o [.mv 4 (.c (.b true))])
  (.r)))))))⟩
abbrev JxY:Nat:=96
theorem Jyx:Qi Go.Proofs.Tryz.prog JxU 96=true:=by kernel_rfl
def JaH:Fn:=⟨1,[(.t 2)],
  .q (.o [.mv 2 (.c (.s []))])
  (.q (.o [.mv 3 (.t 0),
   .bn 4 .shr (.t 3) (.c (.i .u64 8)),
   .ci 5 .u8 (.t 4),
   .mv 6 (.t 0),
   .ci 7 .u8 (.t 6),
   .bs 8 (.i .u8 0) 1 2 [(0,(.t 5)),(1,(.t 7))],
   .cbs 9 (.t 8),
   .mv 2 (.t 9)])
  (.r))⟩
abbrev JaE:Nat:=188
theorem JjJ:Qi Go.Proofs.Tryz.prog JaH 188=true:=by kernel_rfl
theorem Mb.new2 {H:AH} {l:List UInt8} {n:Nat} (h:l.length=n):Mb (H.new (.arr true 0 1 (XR l))) (.sl H.n 0 n) l:=by
 subst h;have:=Mn.own (H:=H.new (.arr true 0 1 (XR l))) (z:=1) (by simp) QD
 rwa [JaP] at this
section
variable {C:Tab}
structure Rr where
 o:List UInt8
 t:Int
 c:Int
 ttl:Int
 d:List UInt8
def encR (r:Rr):AV:= .ag [.s r.o,.i .i64 r.t,.i .i64 r.c,.i .i64 r.ttl,.s r.d]
theorem Jy8 {r:Rr} {H:AH}:Jt C JxU [encR r,encR r] H fun v H'=>H'=H∧v= .b true:=by
 unfold Jt JxU encR;simp only [bU,Jc,reduceCtorEq,Ja,Jb,bT,bV,Ja,Jb,Jr,rsC,rsV,Js]
theorem Jp5 {x m:Int} {H:AH}:Jt C Zp [.i .i64 x,.i .i64 m] H fun v H'=>H'=H∧v= .b (decide (0≤x∧x≤m)):=by
 unfold Jt Zp;by_cases h:0≤x
 ·by_cases h':x≤m<;>simp only [bU,Jc,reduceCtorEq,Ja,bT,bV,Ja,h,h',Jr,rsC,rsV,Js]
 ·simp only [bU,Jc,reduceCtorEq,Ja,bT,bV,Ja,h,Jr,rsC,rsV,Js,false_and]
theorem JmE {x lo m:Int} {H:AH}:Jt C Y5 [.i .i64 x,.i .i64 lo,.i .i64 m] H fun v H'=>H'=H∧v= .b (decide (lo≤x∧x≤m)):=by
 unfold Jt Y5;by_cases h:lo≤x
 ·by_cases h':x≤m<;>simp only [bU,Jc,reduceCtorEq,Ja,bT,bV,Ja,h,h',Jr,rsC,rsV,Js]
 ·simp only [bU,Jc,reduceCtorEq,Ja,bT,bV,Ja,h,Jr,rsC,rsV,Js,false_and]
def JnB (n:Nat):List UInt8:=[UInt8.ofNat (n / 256),UInt8.ofNat n]
theorem Juk {n:Nat} {H:AH} (hn:n≤65535):Jt C JaH [.i .i64 n] H fun v H'=>Ext H H'∧v= .s (JnB n):=by
 unfold Jt JaH;have v3:(2:Int) ^ (min 8 IntKind.i64.bits)=256:=by decide
 have v4:(n:Int).fdiv 256=((n / 256:Nat):Int):=by
  rw [Int.fdiv_eq_ediv_of_nonneg _ (by omega)];omega
 have hm:Mb (H.new (.arr true 0 1 (XR (JnB n)))) (.sl H.n 0 2) (JnB n):=Mb.new2 rfl;obtain ⟨c1,c2⟩:=Byt.cbs hm.sl;simp only [XR,JnB,List.map_cons,List.map_nil] at c1 c2;simp only [bU,Jc,reduceCtorEq,bT,Jd,Jf,bV,v3,v4,u8w,JE,JQ,List.replicate,List.set_cons_succ,List.set,c1,c2,Jr,rsC,rsV,Js];exact ⟨Ext.new _ _,rfl⟩
end
abbrev Opt:=Int×List UInt8
def eR:Enc Rr:=⟨5,fun r=>[.s r.o,.i .i64 r.t,.i .i64 r.c,.i .i64 r.ttl,.s r.d],fun _=>rfl⟩
def wO (o:Opt):Nat:=o.2.length
def Jun (o:Opt):Prop:=0≤o.1∧o.1≤65535∧o.2.length≤65535
instance (o:Opt):Decidable (Jun o):=inferInstanceAs (Decidable (_∧_∧_))
def JtP (C:Tab) (f:Nat):Prop:= ∀ (x m:Int) (H:AH),C f [.i .i64 x,.i .i64 m] H=some (.b (decide (0≤x∧x≤m)),H)
def Jch (C:Tab) (f:Nat):Prop:= ∀ (x lo m:Int) (H:AH),C f [.i .i64 x,.i .i64 lo,.i .i64 m] H=some (.b (decide (lo≤x∧x≤m)),H)
section
variable {C:Tab}
def Jzg {α:Type} (C:Tab) (f:Nat) (E:Enc α):Prop:= ∀ (a b:AV) (xs:List α) (H:AH),Sx H E a xs→Sx H E b xs→xs.length≤1099511627776→C f [a,b] H=some (.b true,H)
end
def Jx0:Fn:=⟨2,[(.t 4)],
  .q (.o [.mv 4 (.c (.b false))])
  (.q (.q (.o [.mv 6 (.t 0),
   .ln 7 (.t 6),
   .mv 8 (.t 1),
   .ln 9 (.t 8),
   .bn 10 .neq (.t 7) (.t 9)])
  (.i (.t 10) (.q (.o [.mv 4 (.c (.b false))])
  (.r))
  (.k)))
  (.q (.q (.o [.mv 5 (.c (.i .i64 0))])
  (.b 0 (.l [0,1,5] (.q (.q (.o [.mv 11 (.t 5),
   .mv 12 (.t 0),
   .ln 13 (.t 12),
   .bn 14 .lss (.t 11) (.t 13)])
  (.i (.t 14) (.k)
  (.x 0)))
  (.q (.b 1 (.q (.p [⟨.mv 17 (.t 0),[],false⟩,
   ⟨.mv 18 (.t 5),[],false⟩,
   ⟨.ia 19 (.t 17) (.t 18) 5,[],false⟩,
   ⟨.ld 20 (.t 19) (some 5),[],false⟩,
   ⟨.mv 21 (.t 1),[],false⟩,
   ⟨.mv 22 (.t 5),[],false⟩,
   ⟨.ia 23 (.t 21) (.t 22) 5,[],false⟩,
   ⟨.ld 24 (.t 23) (some 5),[],false⟩,
   ⟨.cl (some 25) 96 [(.t 20),(.t 24)],[],false⟩,
   ⟨.un 26 .not (.t 25),[],false⟩])
  (.i (.t 26) (.q (.o [.mv 4 (.c (.b false))])
  (.r))
  (.k))))
  (.o [.mv 15 (.t 5),
   .bn 16 .add (.t 15) (.c (.i .i64 1)),
   .mv 5 (.t 16)]))))))
  (.q (.o [.mv 4 (.c (.b true))])
  (.r))))⟩
abbrev JxV:Nat:=33
theorem Jyt:Qi Go.Proofs.Tryz.prog Jx0 33=true:=by kernel_rfl
def Jxz:Fn:=⟨2,[(.t 4)],
  .q (.o [.mv 4 (.c (.i .i64 0))])
  (.q (.q (.o [.mv 5 (.c (.i .i64 0))])
  (.b 0 (.l [0,1,5] (.q (.q (.o [.mv 6 (.t 5),
   .mv 7 (.t 0),
   .ln 8 (.t 7),
   .bn 9 .lss (.t 6) (.t 8)])
  (.i (.t 9) (.k)
  (.x 0)))
  (.q (.b 1 (.q (.o [.mv 12 (.t 0),
   .mv 13 (.t 5),
   .mv 14 (.t 1),
   .cl (some 15) 120 [(.t 14)],
   .ia 16 (.t 12) (.t 13) 5,
   .fa 17 (.t 16) 0,
   .st (.t 17) (.t 15) 1])
  (.q (.o [.mv 18 (.t 1),
   .bn 19 .add (.t 18) (.c (.i .i64 1)),
   .mv 1 (.t 19)])
  (.q (.o [.mv 20 (.t 0),
   .mv 21 (.t 5),
   .mv 22 (.t 1),
   .ia 23 (.t 20) (.t 21) 5,
   .fa 24 (.t 23) 1,
   .st (.t 24) (.t 22) 1])
  (.q (.o [.mv 25 (.t 1),
   .bn 26 .add (.t 25) (.c (.i .i64 1)),
   .mv 1 (.t 26)])
  (.q (.o [.mv 27 (.t 0),
   .mv 28 (.t 5),
   .mv 29 (.t 1),
   .ia 30 (.t 27) (.t 28) 5,
   .fa 31 (.t 30) 2,
   .st (.t 31) (.t 29) 1])
  (.q (.o [.mv 32 (.t 1),
   .bn 33 .add (.t 32) (.c (.i .i64 1)),
   .mv 1 (.t 33)])
  (.q (.o [.mv 34 (.t 0),
   .mv 35 (.t 5),
   .mv 36 (.t 1),
   .ia 37 (.t 34) (.t 35) 5,
   .fa 38 (.t 37) 3,
   .st (.t 38) (.t 36) 1])
  (.q (.o [.mv 39 (.t 1),
   .bn 40 .add (.t 39) (.c (.i .i64 1)),
   .mv 1 (.t 40)])
  (.q (.o [.mv 41 (.t 0),
   .mv 42 (.t 5),
   .mv 43 (.t 1),
   .cl (some 44) 120 [(.t 43)],
   .ia 45 (.t 41) (.t 42) 5,
   .fa 46 (.t 45) 4,
   .st (.t 46) (.t 44) 1])
  (.o [.mv 47 (.t 1),
   .bn 48 .add (.t 47) (.c (.i .i64 1)),
   .mv 1 (.t 48)])))))))))))
  (.o [.mv 10 (.t 5),
   .bn 11 .add (.t 10) (.c (.i .i64 1)),
   .mv 5 (.t 11)]))))))
  (.q (.o [.mv 49 (.t 1),
   .mv 4 (.t 49)])
  (.r)))⟩
abbrev JxQ:Nat:=50
theorem Jyk:Qi Go.Proofs.Tryz.prog Jxz 50=true:=by kernel_rfl
def Xj:Fn:=⟨1,[(.t 2)],
  .q (.o [.mv 2 (.c (.s []))])
  (.q (.q (.o [.mv 4 (.t 0),
   .bn 5 .leq (.t 4) (.c (.i .i64 0))])
  (.i (.t 5) (.q (.o [.mv 2 (.c (.s [109,48]))])
  (.r))
  (.k)))
  (.q (.o [.mv 3 (.c (.s []))])
  (.q (.b 0 (.l [0,3] (.q (.q (.o [.mv 6 (.t 0),
   .bn 7 .gtr (.t 6) (.c (.i .i64 0))])
  (.i (.t 7) (.k)
  (.x 0)))
  (.b 1 (.q (.o [.mv 8 (.t 0),
   .bn 9 .rem (.t 8) (.c (.i .i64 10)),
   .bn 10 .add (.c (.i .i64 48)) (.t 9),
   .ci 11 .u8 (.t 10),
   .bs 12 (.i .u8 0) 1 1 [(0,(.t 11))],
   .cbs 13 (.t 12),
   .mv 14 (.t 3),
   .bn 15 .add (.t 13) (.t 14),
   .mv 3 (.t 15)])
  (.o [.mv 16 (.t 0),
   .bn 17 .quo (.t 16) (.c (.i .i64 10)),
   .mv 0 (.t 17)]))))))
  (.q (.o [.mv 18 (.t 3),
   .bn 19 .add (.c (.s [109])) (.t 18),
   .mv 2 (.t 19)])
  (.r)))))⟩
abbrev QJ:Nat:=120
theorem Jen:Qi Go.Proofs.Tryz.prog Xj 120=true:=by kernel_rfl
def JxX (k:Nat):Rr:=⟨mt (k+0),((k+1:Nat):Int),((k+2:Nat):Int),((k+3:Nat):Int),mt (k+4)⟩
section
variable {C:Tab}
theorem JyD {a:AV} {xs:List Rr} {k:Nat} {H:AH} (hM:JqR C QJ) (h:Mx H eR a xs) (hb:k+5*xs.length≤1099511627776):Jt C Jxz [a,.i .i64 k] H fun v H'=>(v= .i .i64 ((k+5*xs.length:Nat):Int)∧Mx H' eR a (mks JxX 5 k xs.length))∧Kp (idA a) H H':=by
 unfold Jt Jxz;simp -implicitDefEqProofs only [bU,Ja];refine Jl (fun n e M=> ∃ (i:Nat) (H':AH) (L:List Lv) (g:Nat),i≤xs.length∧n=xs.length-i∧look e 0=a∧look e 1= .i .i64 ((k+5*i:Nat):Int)∧look e 5= .i .i64 i∧M=⟨L,g,H'⟩∧Mx H' eR a (mks JxX 5 k i++xs.drop i)∧Kp (idA a) H H') ?_ (n:=xs.length) ⟨0,_,_,_,by omega,by omega,rfl,rfl,rfl,rfl,by simpa [mks] using h,.refl _ _⟩
 rintro n e M ⟨i,H0,L,g,hi,rfl,q0,q1,q5,rfl,m0,hk⟩;obtain ⟨l1,l2⟩:=Sx.len (Mn.sl m0);by_cases hlt:(i:Int) < xs.length
 ·have hil:i < xs.length:=by omega
  obtain ⟨c1,c2⟩:=JyV (mk:=JxX) (c:=5) (k:=k) hil;rw [c1] at l1;rw [←c2] at m0;have hic:i < (mks JxX 5 k i++xs.drop i).length:=by rw [c1];exact hil
  obtain ⟨G0,t0,u0⟩:=hM (k+5*i) H0 (by omega)
  have mm0:=Mn.ext m0 u0;have kk0:=hk.trans (Kp.ext u0);obtain ⟨a0,b0,d0,s0,H1,e0,m1,n0,f0⟩:=Mx.stf (z:=5) mm0 rfl hic (off:=0) (v:= .s (mt (k+5*i))) (x':=⟨mt (k+5*i+0),xs[i].t,xs[i].c,xs[i].ttl,xs[i].d⟩) (by decide) rfl rfl
  have p0:=kk0.trans (Kp.st n0 f0);have w0:IntKind.i64.wrap (((k+5*i:Nat):Int)+1)=((k+5*i+1:Nat):Int):=by rw [w64 (by omega) (by omega)];omega
  obtain ⟨a1,b1,d1,s1,H2,e1,m2,n1,f1⟩:=Mx.stf (z:=5) m1 rfl hic (off:=1) (v:= .i .i64 ((k+5*i+1:Nat):Int)) (x':=⟨mt (k+5*i+0),((k+5*i+1:Nat):Int),xs[i].c,xs[i].ttl,xs[i].d⟩) (by decide) rfl rfl
  have p1:=p0.trans (Kp.st n1 f1);have w1:IntKind.i64.wrap (((k+5*i+1:Nat):Int)+1)=((k+5*i+2:Nat):Int):=by rw [w64 (by omega) (by omega)];omega
  obtain ⟨a2,b2,d2,s2,H3,e2,m3,n2,f2⟩:=Mx.stf (z:=5) m2 rfl hic (off:=2) (v:= .i .i64 ((k+5*i+2:Nat):Int)) (x':=⟨mt (k+5*i+0),((k+5*i+1:Nat):Int),((k+5*i+2:Nat):Int),xs[i].ttl,xs[i].d⟩) (by decide) rfl rfl
  have p2:=p1.trans (Kp.st n2 f2);have w2:IntKind.i64.wrap (((k+5*i+2:Nat):Int)+1)=((k+5*i+3:Nat):Int):=by rw [w64 (by omega) (by omega)];omega
  obtain ⟨a3,b3,d3,s3,H4,e3,m4,n3,f3⟩:=Mx.stf (z:=5) m3 rfl hic (off:=3) (v:= .i .i64 ((k+5*i+3:Nat):Int)) (x':=⟨mt (k+5*i+0),((k+5*i+1:Nat):Int),((k+5*i+2:Nat):Int),((k+5*i+3:Nat):Int),xs[i].d⟩) (by decide) rfl rfl
  have p3:=p2.trans (Kp.st n3 f3);have w3:IntKind.i64.wrap (((k+5*i+3:Nat):Int)+1)=((k+5*i+4:Nat):Int):=by rw [w64 (by omega) (by omega)];omega
  obtain ⟨G4,t4,u4⟩:=hM (k+5*i+4) H4 (by omega)
  have mm4:=Mn.ext m4 u4;have kk4:=p3.trans (Kp.ext u4);obtain ⟨a4,b4,d4,s4,H5,e4,m5,n4,f4⟩:=Mx.stf (z:=5) mm4 rfl hic (off:=4) (v:= .s (mt (k+5*i+4))) (x':=⟨mt (k+5*i+0),((k+5*i+1:Nat):Int),((k+5*i+2:Nat):Int),((k+5*i+3:Nat):Int),mt (k+5*i+4)⟩) (by decide) rfl rfl
  have p4:=kk4.trans (Kp.st n4 f4);have w4:IntKind.i64.wrap (((k+5*i+4:Nat):Int)+1)=((k+5*i+5:Nat):Int):=by rw [w64 (by omega) (by omega)];omega
  have w9:IntKind.i64.wrap ((i:Int)+1)=((i+1:Nat):Int):=by rw [w64 (by omega) (by omega)];rfl
  simp -implicitDefEqProofs only [bU,Jc,reduceCtorEq,bT,q0,q1,q5,l1,l2,hlt,w9,Jj,t0,a0,b0,d0,s0,e0,w0,a1,s1,e1,w1,a2,s2,e2,w2,a3,s3,e3,w3,t4,a4,s4,e4,w4];refine ⟨xs.length- (i+1),by omega,i+1,H5,_,_,by omega,rfl,by rw [show k+5*(i+1)=k+5*i+5 by omega],rfl,rfl,?_,p4⟩
  have:=JmA (mk:=JxX) (c:=5) (k:=k) hil;rw [←this];exact m5
 ·have hil:i=xs.length:=by omega
  subst hil;have hl:(mks JxX 5 k xs.length++xs.drop xs.length).length=xs.length:=by simp [mks]
  rw [hl] at l1;simp -implicitDefEqProofs only [bU,Jc,reduceCtorEq,bT,q0,q1,q5,l1,l2,hlt,Jr,rsC,rsV,Js];exact ⟨by simpa using m0,hk⟩
end
structure Hd where
 id:Int
 qr:Bool
 op:Int
 aa:Bool
 tc:Bool
 rd:Bool
 ra:Bool
 z:Bool
 ad:Bool
 cd:Bool
 code:Int
def Dj (a b:AV):Prop:= ∀ i,i∈idA a→ ¬ i∈idA b
def JyL {α:Type} (C:Tab) (f:Nat) (E:Enc α) (mk:Nat→α) (z:Nat):Prop:= ∀ (a:AV) (xs:List α) (k:Nat) (H:AH),Mx H E a xs→k+z*xs.length≤1099511627776→ ∃ v H',C f [a,.i .i64 k] H=some (v,H')∧(v= .i .i64 ((k+z*xs.length:Nat):Int)∧Mx H' E a (mks mk z k xs.length))∧Kp (idA a) H H'
def JyF {α:Type} (C:Tab) (f:Nat) (E:Enc α) (mk:Nat→α) (z:Nat):Prop:= ∀ (a:AV) (k c:Nat) (H:AH),Sx H E a (mks mk z k c)→k+z*c≤1099511627776→ ∃ v H',C f [a,.i .i64 k] H=some (v,H')∧v= .i .i64 ((k+z*c:Nat):Int)∧Ext H H'
section
variable {C:Tab}
theorem Jj4 {k:Nat} {H:AH} (hk:k≤1099511627776):Jt C Xj [.i .i64 k] H fun v H'=>v= .s (mt k)∧Ext H H':=by
 unfold Jt Xj;by_cases h0:(k:Int)≤0
 ·have:k=0:=by omega
  subst this;simp -implicitDefEqProofs only [bU,Jc,reduceCtorEq,bT,Int.natCast_zero,Int.le_refl,Jr,rsC,rsV,Js];exact ⟨rfl,.refl _⟩
 ·have hk0: ¬ k=0:=by omega
  simp -implicitDefEqProofs only [bU,Jc,reduceCtorEq,bT,h0];refine Jl (fun n e M=> ∃ (j:Nat) (out:List UInt8) (H':AH) (L:List Lv) (g:Nat),n=j∧look e 0= .i .i64 j∧look e 3= .s out∧M=⟨L,g,H'⟩∧Ext H H'∧j≤k∧out.length+j≤k∧dgs k []=dgs j out) ?_ (n:=k) ⟨k,[],_,_,_,rfl,rfl,rfl,rfl,.refl _,Nat.le_refl _,by simp,rfl⟩
  rintro n e M ⟨j,out,H',L,g,rfl,q0,q3,rfl,he,hj,hl,hd⟩;by_cases hj0:(0:Int) < n
  ·have w1:(n:Int).tmod 10=((n % 10:Nat):Int):=by rw [Int.tmod_eq_emod_of_nonneg (by omega)];omega
   have w2:IntKind.i64.wrap (48+((n % 10:Nat):Int))=((48+n % 10:Nat):Int):=by rw [w64 (by omega) (by omega)];omega
   have w3:(n:Int).tdiv 10=((n / 10:Nat):Int):=by rw [Int.tdiv_eq_ediv_of_nonneg (by omega)];omega
   have w4:IntKind.i64.wrap ((n / 10:Nat):Int)=((n / 10:Nat):Int):=w64 (by omega) (by omega)
   have hm:Mb (H'.new (.arr true 0 1 (XR [UInt8.ofNat (48+n % 10)]))) (.sl H'.n 0 1) [UInt8.ofNat (48+n % 10)]:=Mb.new2 rfl;obtain ⟨c1,c2⟩:=Byt.cbs hm.sl;simp only [XR,List.map_cons,List.map_nil] at c1 c2;have d10:(10:Int) ≠0:=by decide
   have hlen:1+out.length≤9223372036854775807:=by omega
   simp -implicitDefEqProofs only [bU,Jc,reduceCtorEq,Jb,bT,q0,q3,hj0,w1,w2,w3,w4,u8w,JE,JQ,List.replicate,c1,c2,hlen];refine ⟨by decide,by decide,n / 10,by omega,n / 10,_,_,_,_,rfl,rfl,rfl,rfl,he.trans (.new _ _),by omega,by simp;omega,?_⟩
   rw [hd,dgs,dif_neg (by omega)]
   rfl
  ·have:n=0:=by omega
   subst this;have hlen:1+out.length≤9223372036854775807:=by omega
   simp -implicitDefEqProofs only [bU,Jc,reduceCtorEq,bT,q0,q3,hj0,hlen,Jr,rsC,rsV,Js];refine ⟨?_,he⟩
   rw [mt,if_neg hk0,hd,dgs,dif_pos rfl];rfl
end
def WK:Fn:=⟨2,[(.t 4)],
  .q (.o [.mv 4 (.c (.i .i64 0))])
  (.q (.q (.o [.mv 7 (.t 0),
   .bn 8 .lss (.t 7) (.c (.i .i64 0)),
   .mv 9 (.t 8),
   .gd 9 false (.mv 10 (.t 0)),
   .gd 9 false (.bn 11 .gtr (.t 10) (.c (.i .i64 65535))),
   .pk 12 (.t 9) (.c (.b true)) (.t 11)])
  (.i (.t 12) (.q (.o [.mv 4 (.c (.i .i64 6))])
  (.r))
  (.k)))
  (.q (.q (.o [.mv 13 (.t 1),
   .lns 14 (.t 13),
   .bn 15 .gtr (.t 14) (.c (.i .i64 65535))])
  (.i (.t 15) (.q (.o [.mv 4 (.c (.i .i64 7))])
  (.r))
  (.k)))
  (.q (.q (.o [.mv 17 (.t 0),
   .mv 18 (.t 1),
   .cl (some 19) 185 [(.t 17),(.t 18)],
   .mv 16 (.t 19),
   .ex 20 (.t 16) 0,
   .ex 21 (.t 16) 1,
   .mv 5 (.t 20),
   .mv 6 (.t 21)])
  (.q (.o [.mv 22 (.t 6),
   .un 23 .not (.t 22)])
  (.i (.t 23) (.q (.o [.mv 4 (.c (.i .i64 7))])
  (.r))
  (.k))))
  (.q (.o [.mv 4 (.c (.i .i64 0))])
  (.r)))))⟩
abbrev Qg:Nat:=106
theorem Jdf:Qi Go.Proofs.Tryz.prog WK 106=true:=by kernel_rfl
def YM:Fn:=⟨1,[(.t 2)],
  .q (.o [.mv 2 (.c (.b false))])
  (.q (.o [.mv 6 (.t 0),
   .cl (some 7) 184 [(.t 6)],
   .mv 5 (.t 7),
   .ex 8 (.t 5) 0,
   .ex 9 (.t 5) 1,
   .mv 3 (.t 8),
   .mv 4 (.t 9)])
  (.q (.o [.mv 10 (.t 4),
   .mv 2 (.t 10)])
  (.r)))⟩
abbrev XM:Nat:=114
theorem JfW:Qi Go.Proofs.Tryz.prog YM 114=true:=by kernel_rfl
def Xq:Fn:=⟨1,[(.t 2),(.t 3)],
  .q (.o [.mv 2 (.c .ns),
   .mv 3 (.c (.b false))])
  (.q (.o [.mv 4 (.c .ns)])
  (.q (.q (.o [.mv 7 (.t 0),
   .lns 8 (.t 7),
   .bn 9 .gtr (.t 8) (.c (.i .i64 255))])
  (.i (.t 9) (.q (.o [.mv 2 (.c .ns),
   .mv 3 (.c (.b false))])
  (.r))
  (.k)))
  (.q (.q (.o [.mv 5 (.c (.i .i64 0))])
  (.b 0 (.l [0,4,5] (.q (.q (.o [.mv 10 (.t 5),
   .mv 11 (.t 0),
   .lns 12 (.t 11),
   .bn 13 .lss (.t 10) (.t 12)])
  (.i (.t 13) (.k)
  (.x 0)))
  (.b 1 (.q (.o [.mv 14 (.t 0),
   .mv 15 (.t 5),
   .ix 16 (.t 14) (.t 15),
   .ci 17 .i64 (.t 16),
   .mv 6 (.t 17)])
  (.q (.q (.o [.mv 18 (.t 6),
   .bn 19 .eql (.t 18) (.c (.i .i64 0))])
  (.i (.t 19) (.q (.o [.mv 20 (.t 4),
   .mv 21 (.t 5),
   .mv 22 (.t 0),
   .lns 23 (.t 22),
   .bn 24 .sub (.t 23) (.c (.i .i64 1)),
   .bn 25 .eql (.t 21) (.t 24),
   .mv 2 (.t 20),
   .mv 3 (.t 25)])
  (.r))
  (.k)))
  (.q (.q (.o [.mv 26 (.t 6),
   .bn 27 .gtr (.t 26) (.c (.i .i64 63)),
   .mv 28 (.t 27),
   .gd 28 false (.mv 29 (.t 5)),
   .gd 28 false (.bn 30 .add (.t 29) (.c (.i .i64 1))),
   .gd 28 false (.mv 31 (.t 6)),
   .gd 28 false (.bn 32 .add (.t 30) (.t 31)),
   .gd 28 false (.mv 33 (.t 0)),
   .gd 28 false (.lns 34 (.t 33)),
   .gd 28 false (.bn 35 .gtr (.t 32) (.t 34)),
   .pk 36 (.t 28) (.c (.b true)) (.t 35)])
  (.i (.t 36) (.q (.o [.mv 2 (.c .ns),
   .mv 3 (.c (.b false))])
  (.r))
  (.k)))
  (.q (.o [.mv 37 (.t 4),
   .mv 38 (.t 0),
   .mv 39 (.t 5),
   .bn 40 .add (.t 39) (.c (.i .i64 1)),
   .mv 41 (.t 5),
   .bn 42 .add (.t 41) (.c (.i .i64 1)),
   .mv 43 (.t 6),
   .bn 44 .add (.t 42) (.t 43),
   .ss 45 (.t 38) (some (.t 40)) (some (.t 44)),
   .lbs 46 (.s []) 1 1 [(0,(.t 45))],
   .ap 47 (.t 37) (.t 46) 1 16,
   .mv 4 (.t 47)])
  (.o [.mv 48 (.t 5),
   .mv 49 (.t 6),
   .bn 50 .add (.c (.i .i64 1)) (.t 49),
   .bn 51 .add (.t 48) (.t 50),
   .mv 5 (.t 51)]))))))))))
  (.q (.o [.mv 2 (.c .ns),
   .mv 3 (.c (.b false))])
  (.r)))))⟩
abbrev QF:Nat:=184
theorem Je2:Qi Go.Proofs.Tryz.prog Xq 184=true:=by kernel_rfl
def Jz:Fn:=⟨2,[(.t 4),(.t 5)],
  .q (.o [.bx 3 (.t 1),
   .mv 4 (.c .ns),
   .mv 5 (.c (.b false))])
  (.q (.o [.ld 20 (.g 1) none,
   .mv 21 (.t 0),
   .lk 22 (.t 20) (.t 21) (.s []) [(.i .i64)] true,
   .mv 19 (.t 22),
   .ex 23 (.t 19) 0,
   .ex 24 (.t 19) 1,
   .mv 6 (.t 23),
   .mv 7 (.t 24)])
  (.q (.q (.o [.mv 25 (.t 7),
   .un 26 .not (.t 25)])
  (.i (.t 26) (.q (.o [.mv 4 (.c .ns),
   .mv 5 (.c (.b true))])
  (.r))
  (.k)))
  (.q (.o [.mv 8 (.c .ns)])
  (.q (.o [.al 9 1 [(.i .i64 0)],
   .st (.t 9) (.c (.i .i64 0)) 1])
  (.q (.o [.mf 27 255 [(.t 3),(.t 9)],
   .mv 10 (.t 27)])
  (.q (.q (.o [.mv 28 (.t 6),
   .rs 29 (.t 28)])
  (.b 0 (.l [3,8,9,10,29] (.q (.o [.nx 30 (.t 29),
   .ex 31 (.t 30) 0])
  (.q (.i (.t 31) (.k)
  (.x 0))
  (.b 1 (.q (.o [.ex 32 (.t 30) 2,
   .mv 12 (.t 32)])
  (.q (.o [.mv 13 (.c (.i .i64 (-1)))])
  (.q (.q (.o [.mv 33 (.t 12)])
  (.b 2 (.q (.o [.bn 35 .eql (.t 33) (.c (.i .i32 49)),
   .mv 34 (.t 35)])
  (.i (.t 34) (.o [.mv 13 (.c (.i .i64 1))])
  (.q (.o [.bn 37 .eql (.t 33) (.c (.i .i32 50)),
   .mv 36 (.t 37)])
  (.i (.t 36) (.o [.mv 13 (.c (.i .i64 2))])
  (.q (.q (.o [.bn 39 .eql (.t 33) (.c (.i .i32 52)),
   .mv 38 (.t 39)])
  (.i (.t 38) (.k)
  (.q (.o [.bn 40 .eql (.t 33) (.c (.i .i32 103)),
   .mv 38 (.t 40)])
  (.i (.t 38) (.k)
  (.o [.bn 41 .eql (.t 33) (.c (.i .i32 113)),
   .mv 38 (.t 41)])))))
  (.i (.t 38) (.o [.mv 13 (.c (.i .i64 4))])
  (.q (.o [.bn 43 .eql (.t 33) (.c (.i .i32 110)),
   .mv 42 (.t 43)])
  (.i (.t 42) (.q (.o [.mv 44 (.t 10),
   .cv (some 45) (.t 44) [],
   .cl (some 46) 256 [(.t 45)],
   .mv 13 (.t 46)])
  (.q (.q (.o [.mv 47 (.t 13),
   .bn 48 .eql (.t 47) (.c (.i .i64 0))])
  (.i (.t 48) (.q (.o [.mv 4 (.c .ns),
   .mv 5 (.c (.b false))])
  (.r))
  (.k)))
  (.o [.mv 49 (.t 8),
   .ld 50 (.t 9) none,
   .ld 51 (.t 9) none,
   .mv 52 (.t 13),
   .bn 53 .add (.t 51) (.t 52),
   .bd 54 [(.i .i64 0),(.i .i64 0)] [(0,1,(.t 50)),(1,1,(.t 53))],
   .lbs 55 (.ag [(.i .i64 0),(.i .i64 0)]) 2 1 [(0,(.t 54))],
   .ap 56 (.t 49) (.t 55) 2 16,
   .mv 8 (.t 56)])))
  (.q (.q (.o [.bn 58 .eql (.t 33) (.c (.i .i32 116)),
   .mv 57 (.t 58)])
  (.i (.t 57) (.k)
  (.o [.bn 59 .eql (.t 33) (.c (.i .i32 99)),
   .mv 57 (.t 59)])))
  (.i (.t 57) (.q (.q (.o [.ld 60 (.t 9) none,
   .ld 61 (.t 3) none,
   .lns 62 (.t 61),
   .bn 63 .geq (.t 60) (.t 62)])
  (.i (.t 63) (.q (.o [.mv 4 (.c .ns),
   .mv 5 (.c (.b false))])
  (.r))
  (.k)))
  (.q (.o [.ld 64 (.t 3) none,
   .ld 65 (.t 9) none,
   .ix 66 (.t 64) (.t 65),
   .ci 67 .i64 (.t 66),
   .bn 68 .add (.c (.i .i64 1)) (.t 67),
   .mv 13 (.t 68)])
  (.q (.o [.mv 69 (.t 12),
   .bn 70 .eql (.t 69) (.c (.i .i32 99))])
  (.i (.t 70) (.q (.q (.o [.mv 71 (.t 13),
   .bn 72 .lss (.t 71) (.c (.i .i64 2)),
   .mv 73 (.t 72),
   .gd 73 false (.mv 74 (.t 13)),
   .gd 73 false (.bn 75 .gtr (.t 74) (.c (.i .i64 16))),
   .pk 76 (.t 73) (.c (.b true)) (.t 75),
   .mv 77 (.t 76),
   .gd 77 false (.ld 78 (.t 9) none),
   .gd 77 false (.mv 79 (.t 13)),
   .gd 77 false (.bn 80 .add (.t 78) (.t 79)),
   .gd 77 false (.ld 81 (.t 3) none),
   .gd 77 false (.lns 82 (.t 81)),
   .gd 77 false (.bn 83 .gtr (.t 80) (.t 82)),
   .pk 84 (.t 77) (.c (.b true)) (.t 83)])
  (.i (.t 84) (.q (.o [.mv 4 (.c .ns),
   .mv 5 (.c (.b false))])
  (.r))
  (.k)))
  (.q (.o [.ld 85 (.t 3) none,
   .ld 86 (.t 9) none,
   .bn 87 .add (.t 86) (.c (.i .i64 1)),
   .ld 88 (.t 9) none,
   .mv 89 (.t 13),
   .bn 90 .add (.t 88) (.t 89),
   .ss 91 (.t 85) (some (.t 87)) (some (.t 90)),
   .csb 92 (.t 91),
   .ln 93 (.t 92),
   .mv 94 (.c (.i .i64 0))])
  (.b 3 (.l [3,8,9,10,13,29,92,93,94] (.q (.o [.bn 95 .lss (.t 94) (.t 93)])
  (.q (.i (.t 95) (.k)
  (.x 3))
  (.q (.b 4 (.q (.o [.ia 96 (.t 92) (.t 94) 1,
   .ld 97 (.t 96) none,
   .mv 15 (.t 97)])
  (.q (.o [.mv 98 (.t 15),
   .bn 99 .geq (.t 98) (.c (.i .u8 48)),
   .mv 100 (.t 99),
   .gd 100 true (.mv 101 (.t 15)),
   .gd 100 true (.bn 102 .leq (.t 101) (.c (.i .u8 57))),
   .pk 103 (.t 100) (.t 102) (.c (.b false)),
   .mv 104 (.t 103),
   .gd 104 false (.mv 105 (.t 15)),
   .gd 104 false (.bn 106 .geq (.t 105) (.c (.i .u8 97))),
   .gd 104 false (.mv 107 (.t 106)),
   .gd 107 true (.mv 108 (.t 15)),
   .gd 107 true (.bn 109 .leq (.t 108) (.c (.i .u8 122))),
   .gd 104 false (.pk 110 (.t 107) (.t 109) (.c (.b false))),
   .pk 111 (.t 104) (.c (.b true)) (.t 110),
   .mv 112 (.t 111),
   .gd 112 false (.mv 113 (.t 15)),
   .gd 112 false (.bn 114 .geq (.t 113) (.c (.i .u8 65))),
   .gd 112 false (.mv 115 (.t 114)),
   .gd 115 true (.mv 116 (.t 15)),
   .gd 115 true (.bn 117 .leq (.t 116) (.c (.i .u8 90))),
   .gd 112 false (.pk 118 (.t 115) (.t 117) (.c (.b false))),
   .pk 119 (.t 112) (.c (.b true)) (.t 118),
   .un 120 .not (.t 119)])
  (.i (.t 120) (.q (.o [.mv 4 (.c .ns),
   .mv 5 (.c (.b false))])
  (.r))
  (.k)))))
  (.o [.bn 121 .add (.t 94) (.c (.i .i64 1)),
   .mv 94 (.t 121)]))))))))
  (.k)))))
  (.q (.o [.bn 123 .eql (.t 33) (.c (.i .i32 84)),
   .mv 122 (.t 123)])
  (.i (.t 122) (.q (.o [.ld 124 (.t 9) none,
   .mv 16 (.t 124)])
  (.q (.b 5 (.l [3,8,9,10,16,29] (.q (.q (.o [.mv 125 (.t 16),
   .ld 126 (.t 3) none,
   .lns 127 (.t 126),
   .bn 128 .lss (.t 125) (.t 127)])
  (.i (.t 128) (.k)
  (.x 5)))
  (.b 6 (.o [.mv 129 (.t 16),
   .ld 130 (.t 3) none,
   .mv 131 (.t 16),
   .ix 132 (.t 130) (.t 131),
   .ci 133 .i64 (.t 132),
   .bn 134 .add (.c (.i .i64 1)) (.t 133),
   .bn 135 .add (.t 129) (.t 134),
   .mv 16 (.t 135)])))))
  (.q (.o [.mv 136 (.t 16),
   .ld 137 (.t 9) none,
   .bn 138 .sub (.t 136) (.t 137),
   .mv 13 (.t 138)])
  (.q (.o [.mv 139 (.t 13),
   .bn 140 .eql (.t 139) (.c (.i .i64 0))])
  (.i (.t 140) (.q (.o [.mv 4 (.c .ns),
   .mv 5 (.c (.b false))])
  (.r))
  (.k))))))
  (.q (.o [.bn 142 .eql (.t 33) (.c (.i .i32 109)),
   .mv 141 (.t 142)])
  (.i (.t 141) (.q (.q (.o [.mv 144 (.t 10),
   .cv (some 145) (.t 144) [],
   .cl (some 146) 257 [(.t 145)],
   .mv 143 (.t 146),
   .ex 147 (.t 143) 0,
   .ex 148 (.t 143) 1,
   .mv 17 (.t 147),
   .mv 18 (.t 148)])
  (.q (.o [.mv 149 (.t 18),
   .bn 150 .neq (.t 149) (.c (.i .i64 0))])
  (.i (.t 150) (.q (.o [.mv 4 (.c .ns),
   .mv 5 (.c (.b false))])
  (.r))
  (.k))))
  (.o [.mv 151 (.t 10),
   .cv (some 152) (.t 151) [],
   .lns 153 (.t 152),
   .mv 13 (.t 153)]))
  (.q (.o [.bn 155 .eql (.t 33) (.c (.i .i32 42)),
   .mv 154 (.t 155)])
  (.i (.t 154) (.o [.mv 156 (.t 10),
   .cv (some 157) (.t 156) [],
   .lns 158 (.t 157),
   .mv 13 (.t 158)])
  (.k)))))))))))))))))))
  (.q (.q (.o [.ld 159 (.t 9) none,
   .mv 160 (.t 13),
   .bn 161 .add (.t 159) (.t 160),
   .ld 162 (.t 3) none,
   .lns 163 (.t 162),
   .bn 164 .gtr (.t 161) (.t 163)])
  (.i (.t 164) (.q (.o [.mv 4 (.c .ns),
   .mv 5 (.c (.b false))])
  (.r))
  (.k)))
  (.o [.ld 165 (.t 9) none,
   .mv 166 (.t 13),
   .bn 167 .add (.t 165) (.t 166),
   .st (.t 9) (.t 167) 1])))))))))))
  (.q (.p [⟨.mv 168 (.t 8),[],false⟩,
   ⟨.ld 169 (.t 9) none,[],false⟩,
   ⟨.ld 170 (.t 3) none,[],false⟩,
   ⟨.lns 171 (.t 170),[],false⟩,
   ⟨.bn 172 .eql (.t 169) (.t 171),[],false⟩,
   ⟨.mv 4 (.t 168),[],false⟩,
   ⟨.mv 5 (.t 172),[],false⟩])
  (.r))))))))⟩
abbrev Za:Nat:=185
theorem Jgk:Qi Go.Proofs.Tryz.prog Jz 185=true:=by kernel_rfl
theorem JmW (n k:Nat):(n:Int).fdiv ((2:Int) ^ k)=((n / 2 ^ k:Nat):Int):=by
 rw [Int.fdiv_eq_ediv_of_nonneg _ (Int.le_of_lt (Int.pow_pos (by decide)))]
 norm_cast
section
variable {C:Tab}
def Wz (s:List UInt8):Option (List (List UInt8)):=match s with
 | []=>none
 | n::r=>if n.toNat=0 then (if r=[] then some [] else none) else
  if h:63 < n.toNat∨r.length < n.toNat then none else (Wz (r.drop n.toNat)).map fun q=>r.take n.toNat::q
termination_by s.length
decreasing_by simp;omega
def JB (s:List UInt8):Option (List (List UInt8)):=if 255 < s.length then none else Wz s
def Jc5 (r:Option (List (List UInt8))) (H:AH) (v:AV) (H':AH):Prop:=Ext H H'∧match r with
 | none=> ∃ o,v= .tp [o,.b false]∧o.outs=true
 | some ls=> ∃ o,v= .tp [o,.b true]∧Mn H' 1 o (ls.map AV.s)∧ ∀ i,i∈idA o→H.n≤i
def ZZ (C:Tab) (f:Nat):Prop:= ∀ (s:List UInt8) (H:AH),s.length≤9223372036854775807→ ∃ v H',C f [.s s] H=some (v,H')∧Jc5 (JB s) H v H'
theorem JnF {s:List UInt8} {H:AH} (hL:ZZ C QF) (hs:s.length≤9223372036854775807):Jt C YM [.s s] H fun v H'=>v= .b (JB s).isSome∧Ext H H':=by
 unfold Jt YM;obtain ⟨v,H',k1,k2,k3⟩:=hL s H hs;cases hn:JB s with
 | none=>
  rw [hn] at k3;obtain ⟨o,rfl,ho⟩:=k3;simp -implicitDefEqProofs only [bU,Jc,reduceCtorEq,Ja,Jb,bT,k1,Jr,rsC,rsV,Js];exact ⟨rfl,k2⟩
 | some ls=>
  rw [hn] at k3;obtain ⟨o,rfl,hm,-⟩:=k3;have ho:=hm.sl.out;simp -implicitDefEqProofs only [bU,Jc,reduceCtorEq,Ja,Jb,bT,k1,Jr,rsC,rsV,Js];exact ⟨rfl,k2⟩
theorem Jg2 {t g:Nat} {x:List UInt8} {L:List Lv} {H:AH}:QE ⟨⟨t,g,0,[.s x]⟩::L,g+1,H⟩ (.ll t g 1 1)=[AV.s x]∧Je7 ⟨⟨t,g,0,[.s x]⟩::L,g+1,H⟩ 1 (.ll t g 1 1):=Je0
theorem JjM {s:List UInt8} {H:AH} (hs:s.length≤9223372036854775807):Jt C Xq [.s s] H (Jc5 (JB s) H):=by
 unfold Jt Xq;by_cases hA:(255:Int) < s.length
 ·simp -implicitDefEqProofs only [bU,Jc,reduceCtorEq,bT,hA,Jr,rsC,rsV,Js]
  rw [JB,if_pos (by omega)]
  exact ⟨.refl _,.ns,rfl,rfl⟩
 have hnm:JB s=Wz s:=by rw [JB,if_neg (by omega)]
 rw [hnm];simp -implicitDefEqProofs only [bU,Jc,reduceCtorEq,bT,hA]
 refine Jl (fun n e M=> ∃ (i:Nat) (acc:List (List UInt8)) (o:AV) (H':AH) (L:List Lv) (g:Nat),i≤s.length∧n=s.length-i∧look e 0= .s s∧look e 4=o∧look e 5= .i .i64 i∧M=⟨L,g,H'⟩∧acc.length≤i∧Mn H' 1 o (acc.map AV.s)∧Ext H H'∧(∀ j,j∈idA o→H.n≤j)∧Wz s=(Wz (s.drop i)).map fun q=>acc++q) ?_ (n:=s.length)
  ⟨0,[],.ns,H,_,_,by omega,by omega,rfl,rfl,rfl,rfl,Nat.le_refl _,.nil,.refl _,by simp [idA],by simp⟩
 rintro n e M ⟨i,acc,o,H',L,g,hi,rfl,q0,q4,q5,rfl,hacc,hm,he,hid,hg⟩;have ho:=hm.sl.out;by_cases hlt:(i:Int) < s.length
 ·have hil:i < s.length:=by omega
  have hp:(0:Int)≤i:=by omega
  obtain ⟨b,hbb⟩: ∃ b,s.getD i 0=b:=⟨_,rfl⟩;have hd:s.drop i=b::s.drop (i+1):=by rw [List.drop_eq_getElem_cons hil,←hbb];simp [List.getD,hil]
  have hb:=b.toNat_lt;have hbw:IntKind.i64.wrap (b.toNat:Int)=(b.toNat:Int):=w64 (by omega) (by omega)
  rw [hd,Wz] at hg;by_cases h0:b.toNat=0
  ·rw [if_pos h0] at hg
   have hw:IntKind.i64.wrap ((s.length:Int)-1)=(s.length:Int)-1:=w64 (by omega) (by omega)
   have h0':((0:Nat):Int)=0:=rfl;have hw0:IntKind.i64.wrap 0=0:=by decide
   by_cases hend:(i:Int)=(s.length:Int)-1
   ·have hr:s.drop (i+1)=[]:=List.drop_of_length_le (by omega)
    rw [if_pos hr,Option.map_some,List.append_nil] at hg;rw [hg];have hend':((i:Int)=(s.length:Int)-1)=True:=eq_true hend;simp -implicitDefEqProofs only [bU,Jc,reduceCtorEq,bT,q0,q4,q5,hlt,hp,Jj,hbb,h0,h0',hw0,hw,hend',ho,Jr,rsC,rsV,Js];exact ⟨he,o,rfl,hm,hid⟩
   ·have hr:s.drop (i+1) ≠ []:=fun hh=>by
     have:=congrArg List.length hh;simp at this;omega
    rw [if_neg hr,Option.map_none] at hg;rw [hg];simp -implicitDefEqProofs only [bU,Jc,reduceCtorEq,bT,q0,q4,q5,hlt,hp,Jj,hbb,h0,h0',hw0,hw,hend,ho,Jr,rsC,rsV,Js];exact ⟨he,o,rfl,ho⟩
  ·rw [if_neg h0] at hg
   have h0': ¬ (b.toNat:Int)=0:=by omega
   have hl:(s.drop (i+1)).length=s.length- (i+1):=by simp
   have w1:IntKind.i64.wrap ((i:Int)+1)=((i+1:Nat):Int):=by rw [w64 (by omega) (by omega)];rfl
   have w2:IntKind.i64.wrap (((i+1:Nat):Int)+(b.toNat:Int))=((i+1+b.toNat:Nat):Int):=by rw [w64 (by omega) (by omega)];omega
   by_cases h63:(63:Int) < b.toNat
   ·rw [dif_pos (.inl (by omega)),Option.map_none] at hg
    rw [hg];simp -implicitDefEqProofs only [bU,Jc,reduceCtorEq,bT,q0,q4,q5,hlt,hp,Jj,hbb,hbw,h0',h63,Jr,rsC,rsV,Js];exact ⟨he,.ns,rfl,rfl⟩
   ·by_cases hlen:(s.length:Int) < ((i+1+b.toNat:Nat):Int)
    ·rw [dif_pos (.inr (by rw [hl];omega)),Option.map_none] at hg
     rw [hg];simp -implicitDefEqProofs only [bU,Jc,reduceCtorEq,bT,q0,q4,q5,hlt,hp,Jj,hbb,hbw,h0',h63,w1,w2,hlen,Jr,rsC,rsV,Js];exact ⟨he,.ns,rfl,rfl⟩
    ·rw [dif_neg (by rw [hl];omega),List.drop_drop] at hg
     have w3:IntKind.i64.wrap (1+(b.toNat:Int))=((1+b.toNat:Nat):Int):=by rw [w64 (by omega) (by omega)];omega
     have w4:IntKind.i64.wrap ((i:Int)+((1+b.toNat:Nat):Int))=((i+1+b.toNat:Nat):Int):=by rw [w64 (by omega) (by omega)];omega
     have r1:(0:Int)≤((i+1:Nat):Int):=by omega
     have r2:((i+1:Nat):Int)≤((i+1+b.toNat:Nat):Int):=by omega
     have r3:((i+1+b.toNat:Nat):Int)≤s.length:=by omega
     have r4:i+1+b.toNat- (i+1)=b.toNat:=by omega
     obtain ⟨p1,o',H2,p2,p3,p4,p5,p6,p7,-⟩:=Mn.ap (by':=16) hm (Jg2 (t:=46) (g:=g) (x:=(s.drop (i+1)).take b.toNat) (L:=ZK (JJ [0,4,5] L) 46) (H:=H')) (by simp;omega)
     simp -implicitDefEqProofs only [bU,Jc,reduceCtorEq,Jb,bT,q0,q4,q5,hlt,hp,Jj,hbb,hbw,h0',h63,w1,w2,w3,w4,hlen,r1,r2,r3,r4,JE,JQ,List.replicate];simp -implicitDefEqProofs only [bU,p1,p2,p3];refine ⟨s.length- (i+1+b.toNat),by omega,i+1+b.toNat,acc++[(s.drop (i+1)).take b.toNat],o',H2,_,_,by omega,rfl,rfl,rfl,rfl,by simp;omega,?_,he.put hid p5 p6,fun j hj=> ?_,?_⟩
     ·rw [List.map_append];exact p4
     ·rcases p7 j hj with h | h
      ·exact hid j h
      ·have:=he.n;omega
     ·rw [hg,Option.map_map]
      cases Wz (s.drop (i+1+b.toNat))<;>simp
 ·have hil:i=s.length:=by omega
  have:Wz s=none:=by rw [hg,hil,List.drop_length,Wz];rfl
  rw [this];simp -implicitDefEqProofs only [bU,Jc,reduceCtorEq,bT,q0,q4,q5,hlt,Jr,rsC,rsV,Js];exact ⟨he,.ns,rfl,rfl⟩
end
def JfA:List (Int×List UInt8):=[(1,[52]),(2,[110]),(5,[110]),(6,[110,110,103,103,103,103,113]),(12,[110]),(13,[116,116]),(15,[50,110]),(16,[84]),(28,[103,103,103,103]),(33,[50,50,50,110]),(35,[50,50,116,116,116,110]),(39,[110]),(47,[110,109]),(257,[49,99,42])]
def Jau:List (AV×AV):=JfA.map fun e=>(.i .i64 e.1,.s e.2)
abbrev JiY:Nat:=1
structure JR (H:AH):Prop where
 ex: ∃ rw mid es,H.at' JiY= .arr rw 0 1 [.mp mid]∧H.at' mid= .map false es∧JiY < H.n∧mid < H.n∧(∀ e∈es,e.1.isCk (.i .i64)=true)∧ ∀ t,Qf es (.i .i64 t)=Qf Jau (.i .i64 t)
theorem JR.ext {H H':AH} (h:JR H) (he:Ext H H'):JR H':=by
 obtain ⟨rw,mid,es,h1,h2,h3,h4,h5⟩:=h;exact ⟨rw,mid,es,(he.at' _ h3).trans h1,(he.at' _ h4).trans h2,Nat.lt_of_lt_of_le h3 he.n,Nat.lt_of_lt_of_le h4 he.n,h5⟩
def Je8:List UInt8→Nat→Nat
 | [],_=>0
 | c::r,i=>if c.toNat=0 then (if 255 < i+1 then 0 else i+1) else if 63 < c.toNat then 0 else Je8 (r.drop c.toNat) (i+1+c.toNat)
termination_by l=>l.length
decreasing_by simp;omega
def Jbc (d:List UInt8):Nat:=Je8 d 0
theorem ZP (i:Nat):Je8 [] i=0:=by rw [Je8]
theorem JlR {s:List UInt8} {i:Nat} (hi:i < s.length):Je8 (s.drop i) i=if (s.getD i 0).toNat=0 then (if 255 < i+1 then 0 else i+1) else if 63 < (s.getD i 0).toNat then 0 else Je8 (s.drop (i+1+(s.getD i 0).toNat)) (i+1+(s.getD i 0).toNat):=by
 have e:s.getD i 0=s[i]:=by simp [List.getD,List.getElem?_eq_getElem hi]
 rw [List.drop_eq_getElem_cons hi,Je8,e,List.drop_drop]
theorem JjE: ∀ (n:Nat) (l:List UInt8) (i:Nat),l.length≤n→255≤i→Je8 l i=0
 | n,[],i,_,_=>ZP i
 | 0,_::_,_,h,_=>by simp at h
 | n+1,c::r,i,h,hi=>by
  rw [Je8];by_cases h0:c.toNat=0
  ·rw [if_pos h0,if_pos (by omega)]
  ·rw [if_neg h0]
   by_cases h1:63 < c.toNat
   ·rw [if_pos h1]
   ·rw [if_neg h1]
    exact JjE n _ _ (by simp at h ⊢;omega) (by omega)
theorem JiA: ∀ (n:Nat) (l:List UInt8) (i:Nat),l.length≤n→Je8 l i≤i+l.length∧(Je8 l i≠0→i < Je8 l i)
 | n,[],i,_=>by simp [ZP]
 | 0,_::_,_,h=>by simp at h
 | n+1,c::r,i,h=>by
  rw [Je8];simp only [List.length_cons] at h ⊢;by_cases h0:c.toNat=0
  ·rw [if_pos h0]
   split<;>omega
  ·rw [if_neg h0]
   by_cases h1:63 < c.toNat
   ·rw [if_pos h1];omega
   ·rw [if_neg h1]
    obtain ⟨g1,g2⟩:=JiA n (r.drop c.toNat) (i+1+c.toNat) (by simp;omega)
    simp only [List.length_drop] at g1;by_cases hz:Je8 (r.drop c.toNat) (i+1+c.toNat)=0
    ·rw [hz];omega
    ·have:=g2 hz
     by_cases hc:c.toNat≤r.length
     ·omega
     ·rw [List.drop_of_length_le (by omega),ZP] at hz
      exact absurd rfl hz
theorem Jc2 (d:List UInt8):Jbc d≤d.length:=by have:=(JiA _ d 0 (Nat.le_refl _)).1;unfold Jbc;omega
theorem JjB: ∀ (n:Nat) (l:List UInt8) (i:Nat),l.length≤n→Je8 l i≠0→(Wz (l.take (Je8 l i-i))).isSome=true
 | n,[],i,_,h=>absurd (ZP i) h
 | 0,_::_,_,h,_=>by simp at h
 | n+1,c::r,i,h,hne=>by
  rw [Je8] at hne ⊢;by_cases h0:c.toNat=0
  ·rw [if_pos h0] at hne ⊢
   by_cases h2:255 < i+1
   ·rw [if_pos h2] at hne;exact absurd rfl hne
   ·rw [if_neg h2,Nat.add_sub_cancel_left,List.take_succ_cons,List.take_zero,Wz]
    simp [h0]
  ·rw [if_neg h0] at hne ⊢
   by_cases h1:63 < c.toNat
   ·rw [if_pos h1] at hne;exact absurd rfl hne
   ·rw [if_neg h1] at hne ⊢
    simp only [List.length_cons] at h;obtain ⟨g1,g2⟩:=JiA n (r.drop c.toNat) (i+1+c.toNat) (by simp;omega)
    have g3:=g2 hne;simp only [List.length_drop] at g1
    have hc:c.toNat≤r.length:=by
     rcases Nat.lt_or_ge r.length c.toNat with hc | hc
     ·rw [List.drop_of_length_le (by omega),ZP] at hne;exact absurd rfl hne
     ·exact hc
    have ih:=JjB n (r.drop c.toNat) (i+1+c.toNat) (by simp;omega) hne
    generalize Je8 (r.drop c.toNat) (i+1+c.toNat)=k at*;have e:k-i=(c.toNat+(k- (i+1+c.toNat)))+1:=by omega
    rw [e,List.take_succ_cons,Wz];have hl:(List.take (c.toNat+(k- (i+1+c.toNat))) r).length=c.toNat+(k- (i+1+c.toNat)):=by simp;omega
    simp only [h0,if_false];rw [dif_neg (by rw [hl];omega)]
    have e2:(List.take (c.toNat+(k- (i+1+c.toNat))) r).drop c.toNat=(r.drop c.toNat).take (k- (i+1+c.toNat)):=by
     rw [List.drop_take,Nat.add_sub_cancel_left]
    rw [e2];cases hh:Wz ((r.drop c.toNat).take (k- (i+1+c.toNat))) with
    | none=>rw [hh] at ih;cases ih
    | some x=>rfl
theorem JmY {d:List UInt8} (h:Jbc d≠0):(Wz (d.take (Jbc d))).isSome=true:=JjB _ d 0 (Nat.le_refl _) h
def txt (s:List UInt8):List UInt8:=match s with
 | []=>[]
 | c::r=>if r.length < c.toNat then [] else c::r.take c.toNat
theorem JdW (s:List UInt8):(txt s).length≤s.length:=by
 cases s with
 | nil=>simp [txt]
 | cons c r=>simp only [txt];split<;>simp;omega
def JdC (s:List UInt8):List UInt8:=if h:txt s=[] then [] else txt s++JdC (s.drop (txt s).length)
termination_by s.length
decreasing_by
 have h1:=List.length_pos_iff.2 h;have h2:=JdW s;simp;omega
def Zc (c:UInt8):Bool:=(decide (48≤c.toNat) &&decide (c.toNat≤57)) || (decide (97≤c.toNat) &&decide (c.toNat≤122)) || (decide (65≤c.toNat) &&decide (c.toNat≤90))
def Joi (w n:UInt8) (r:List UInt8) (last:Int):Bool:=decide ((w.toNat:Int)≤last) ||decide (n.toNat < 1) ||decide (32 < n.toNat) ||decide (r.length < n.toNat) ||decide ((r.getD (n.toNat-1) 0).toNat=0)
def YF (s:List UInt8) (last:Int):Bool:=match s with
 | []=>true
 | [_]=>false
 | w::n::r=>if Joi w n r last then false else YF (r.drop n.toNat) w.toNat
termination_by s.length
decreasing_by simp;omega
def part (f:UInt8) (d:List UInt8):Option (List UInt8):=
 if f=110 then (if Jbc d=0 then none else some (d.take (Jbc d)))
 else if f=98 then (if d=[] then none else some (d.take 1))
 else if f=116 then (if txt d=[] then none else some (txt d))
 else if f=115 then (if JdC d=[] then none else some (JdC d))
 else if f=99 then (if 2≤(txt d).length∧(txt d).length≤16∧((txt d).drop 1).all Zc=true then some d else none)
 else if f=109 then (if YF d (-1) then some d else none)
 else if f=42 then some d else none
def prs:List UInt8→List UInt8→Option (List (UInt8×List UInt8))
 | [],d=>if d=[] then some [] else none
 | f::fs,d=>match part f d with
  | none=>none
  | some p=>(prs fs (d.drop p.length)).map fun r=>(f,p)::r
def JU (t:Int):List UInt8:=
 if t=1 then [98,98,98,98] else if t=2∨t=5∨t=12∨t=39 then [110] else if t=6 then [110,110,98,98,98,98,98,98,98,98,98,98,98,98,98,98,98,98,98,98,98,98] else
 if t=13 then [116,116] else if t=15 then [98,98,110] else if t=16 then [115] else if t=28 then [98,98,98,98,98,98,98,98,98,98,98,98,98,98,98,98] else if t=33 then [98,98,98,98,98,98,110] else
 if t=35 then [98,98,98,98,116,116,116,110] else if t=47 then [110,109] else if t=257 then [98,99] else [42]
def chk (t:Int) (d:List UInt8):Int:=if t < 0∨65535 < t then 6 else if 65535 < d.length∨(prs (JU t) d).isNone then 7 else 0
theorem Zl {s:List UInt8} (h:txt s=[]):JdC s=[]:=by rw [JdC,dif_pos h]
theorem Ja8 {s:List UInt8} (h:txt s≠ []):JdC s=txt s++JdC (s.drop (txt s).length):=by rw [JdC,dif_neg h]
theorem JgE: ∀ (n:Nat) (s:List UInt8),s.length≤n→(JdC s).length≤s.length
 | 0,s,h=>by
  have:s=[]:=List.eq_nil_of_length_eq_zero (by omega)
  subst this;rw [Zl rfl];simp
 | n+1,s,h=>by
  by_cases ht:txt s=[]
  ·rw [Zl ht];simp
  ·rw [Ja8 ht]
   have h1:=List.length_pos_iff.2 ht;have h2:=JdW s;have:=JgE n (s.drop (txt s).length) (by simp;omega)
   simp only [List.length_append,List.length_drop] at this ⊢;omega
theorem JnS {f:UInt8} {d p:List UInt8} (h:part f d=some p):p.length≤d.length:=by
 unfold part at h;have a:=Jc2 d;have b:=JdW d;have c:=JgE _ d (Nat.le_refl _);repeat' split at h
 all_goals first | (cases h;done) | (injection h with h;subst h;simp;omega) | (injection h with h;subst h;exact b) | (injection h with h;subst h;exact c) | (injection h with h;subst h;exact Nat.le_refl _)
theorem Z8 (f:UInt8) (d:List UInt8):part f d=
 if f=110 then (if Jbc d=0 then none else some (d.take (Jbc d)))
 else if f=98 then (if d=[] then none else some (d.take 1))
 else if f=116 then (if txt d=[] then none else some (txt d))
 else if f=115 then (if JdC d=[] then none else some (JdC d))
 else if f=99 then (if 2≤(txt d).length∧(txt d).length≤16∧((txt d).drop 1).all Zc=true then some d else none)
 else if f=109 then (if YF d (-1) then some d else none)
 else if f=42 then some d else none:=rfl
def YY:Fn:=⟨1,[(.t 2)],
  .q (.o [.mv 2 (.c (.b false))])
  (.q (.o [.mv 6 (.t 0),
   .cl (some 7) 193 [(.t 6)],
   .mv 5 (.t 7),
   .ex 8 (.t 5) 0,
   .ex 9 (.t 5) 1,
   .mv 3 (.t 8),
   .mv 4 (.t 9)])
  (.q (.o [.mv 10 (.t 4),
   .mv 2 (.t 10)])
  (.r)))⟩
abbrev YC:Nat:=112
theorem Jgz:Qi Go.Proofs.Tryz.prog YY 112=true:=by kernel_rfl
def WG:Fn:=⟨2,[(.t 4)],
  .q (.o [.mv 4 (.c .ns)])
  (.q (.q (.o [.mv 7 (.t 0),
   .mv 8 (.t 1),
   .cl (some 9) 106 [(.t 7),(.t 8)],
   .bn 10 .neq (.t 9) (.c (.i .i64 0))])
  (.i (.t 10) (.q (.o [.mv 4 (.c .ns)])
  (.r))
  (.k)))
  (.q (.o [.mv 12 (.t 0),
   .mv 13 (.t 1),
   .cl (some 14) 185 [(.t 12),(.t 13)],
   .mv 11 (.t 14),
   .ex 15 (.t 11) 0,
   .ex 16 (.t 11) 1,
   .mv 5 (.t 15),
   .mv 6 (.t 16)])
  (.q (.o [.mv 17 (.t 5),
   .mv 4 (.t 17)])
  (.r))))⟩
abbrev Ya:Nat:=186
theorem Jde:Qi Go.Proofs.Tryz.prog WG 186=true:=by kernel_rfl
def Xp:Fn:=⟨1,[(.t 2),(.t 3)],
  .q (.o [.mv 2 (.c .ns),
   .mv 3 (.c (.b false))])
  (.q (.o [.bs 7 (.s []) 1 0 [],
   .mv 4 (.t 7)])
  (.q (.q (.o [.mv 8 (.t 0),
   .lns 9 (.t 8),
   .bn 10 .lss (.t 9) (.c (.i .i64 1)),
   .mv 11 (.t 10),
   .gd 11 false (.mv 12 (.t 0)),
   .gd 11 false (.lns 13 (.t 12)),
   .gd 11 false (.bn 14 .gtr (.t 13) (.c (.i .i64 255))),
   .pk 15 (.t 11) (.c (.b true)) (.t 14)])
  (.i (.t 15) (.q (.o [.mv 2 (.c .ns),
   .mv 3 (.c (.b false))])
  (.r))
  (.k)))
  (.q (.o [.mv 16 (.t 0),
   .mv 5 (.t 16)])
  (.q (.b 0 (.l [4,5] (.q (.q (.o [.mv 17 (.t 5),
   .bn 18 .neq (.t 17) (.c (.s []))])
  (.i (.t 18) (.k)
  (.x 0)))
  (.b 1 (.q (.o [.mv 19 (.t 5),
   .ix 20 (.t 19) (.c (.i .i64 0)),
   .ci 21 .i64 (.t 20),
   .mv 6 (.t 21)])
  (.q (.q (.o [.mv 22 (.t 6),
   .bn 23 .eql (.t 22) (.c (.i .i64 0))])
  (.i (.t 23) (.q (.q (.o [.mv 24 (.t 5),
   .lns 25 (.t 24),
   .bn 26 .neq (.t 25) (.c (.i .i64 1))])
  (.i (.t 26) (.q (.o [.mv 2 (.c .ns),
   .mv 3 (.c (.b false))])
  (.r))
  (.k)))
  (.q (.o [.mv 27 (.t 4),
   .mv 2 (.t 27),
   .mv 3 (.c (.b true))])
  (.r)))
  (.k)))
  (.q (.q (.o [.mv 28 (.t 6),
   .bn 29 .gtr (.t 28) (.c (.i .i64 63)),
   .mv 30 (.t 29),
   .gd 30 false (.mv 31 (.t 5)),
   .gd 30 false (.lns 32 (.t 31)),
   .gd 30 false (.mv 33 (.t 6)),
   .gd 30 false (.bn 34 .add (.t 33) (.c (.i .i64 1))),
   .gd 30 false (.bn 35 .lss (.t 32) (.t 34)),
   .pk 36 (.t 30) (.c (.b true)) (.t 35)])
  (.i (.t 36) (.q (.o [.mv 2 (.c .ns),
   .mv 3 (.c (.b false))])
  (.r))
  (.k)))
  (.q (.o [.mv 37 (.t 4),
   .mv 38 (.t 5),
   .mv 39 (.t 6),
   .bn 40 .add (.t 39) (.c (.i .i64 1)),
   .ss 41 (.t 38) (some (.c (.i .i64 1))) (some (.t 40)),
   .lbs 42 (.s []) 1 1 [(0,(.t 41))],
   .ap 43 (.t 37) (.t 42) 1 16,
   .mv 4 (.t 43)])
  (.o [.mv 44 (.t 5),
   .mv 45 (.t 6),
   .bn 46 .add (.t 45) (.c (.i .i64 1)),
   .ss 47 (.t 44) (some (.t 46)) none,
   .mv 5 (.t 47)])))))))))
  (.q (.o [.mv 2 (.c .ns),
   .mv 3 (.c (.b false))])
  (.r))))))⟩
abbrev QI:Nat:=193
theorem JeB:Qi Go.Proofs.Tryz.prog Xp 193=true:=by kernel_rfl
def WI:Fn:=⟨2,[(.t 4)],
  .q (.o [.mv 4 (.c (.i .i64 0))])
  (.q (.q (.o [.mv 7 (.t 0),
   .bn 8 .lss (.t 7) (.c (.i .i64 0)),
   .mv 9 (.t 8),
   .gd 9 false (.mv 10 (.t 0)),
   .gd 9 false (.bn 11 .gtr (.t 10) (.c (.i .i64 65535))),
   .pk 12 (.t 9) (.c (.b true)) (.t 11)])
  (.i (.t 12) (.q (.o [.mv 4 (.c (.i .i64 6))])
  (.r))
  (.k)))
  (.q (.q (.o [.mv 13 (.t 1),
   .lns 14 (.t 13),
   .bn 15 .gtr (.t 14) (.c (.i .i64 65535))])
  (.i (.t 15) (.q (.o [.mv 4 (.c (.i .i64 7))])
  (.r))
  (.k)))
  (.q (.o [.mv 17 (.t 0),
   .cl (some 18) 290 [(.t 17)],
   .mv 19 (.t 1),
   .cl (some 20) 291 [(.t 18),(.t 19)],
   .mv 16 (.t 20),
   .ex 21 (.t 16) 0,
   .ex 22 (.t 16) 1,
   .mv 5 (.t 21),
   .mv 6 (.t 22)])
  (.q (.q (.o [.mv 23 (.t 6),
   .un 24 .not (.t 23)])
  (.i (.t 24) (.q (.o [.mv 4 (.c (.i .i64 7))])
  (.r))
  (.k)))
  (.q (.o [.mv 4 (.c (.i .i64 0))])
  (.r))))))⟩
abbrev WF:Nat:=248
theorem Jdl:Qi Go.Proofs.Tryz.prog WI 248=true:=by kernel_rfl
def Xb:Fn:=⟨2,[(.t 2)],
  .q (.o [.mv 2 (.c (.s []))])
  (.q (.o [.ld 3 (.t 0) none,
   .ld 4 (.t 1) none,
   .ss 5 (.t 3) (some (.t 4)) none,
   .mv 2 (.t 5)])
  (.r))⟩
abbrev Qq:Nat:=255
theorem JeY:Qi Go.Proofs.Tryz.prog Xb 255=true:=by kernel_rfl
def YW:Fn:=⟨1,[(.t 2)],
  .q (.o [.mv 2 (.c (.i .i64 0))])
  (.q (.q (.o [.mv 3 (.c (.i .i64 0))])
  (.b 0 (.l [0,3] (.q (.q (.o [.mv 5 (.t 3),
   .mv 6 (.t 0),
   .lns 7 (.t 6),
   .bn 8 .lss (.t 5) (.t 7)])
  (.i (.t 8) (.k)
  (.x 0)))
  (.b 1 (.q (.o [.mv 9 (.t 0),
   .mv 10 (.t 3),
   .ix 11 (.t 9) (.t 10),
   .ci 12 .i64 (.t 11),
   .mv 4 (.t 12)])
  (.q (.q (.o [.mv 13 (.t 4),
   .bn 14 .eql (.t 13) (.c (.i .i64 0))])
  (.i (.t 14) (.q (.q (.o [.mv 15 (.t 3),
   .bn 16 .add (.t 15) (.c (.i .i64 1)),
   .bn 17 .gtr (.t 16) (.c (.i .i64 255))])
  (.i (.t 17) (.q (.o [.mv 2 (.c (.i .i64 0))])
  (.r))
  (.k)))
  (.q (.o [.mv 18 (.t 3),
   .bn 19 .add (.t 18) (.c (.i .i64 1)),
   .mv 2 (.t 19)])
  (.r)))
  (.k)))
  (.q (.q (.o [.mv 20 (.t 4),
   .bn 21 .gtr (.t 20) (.c (.i .i64 63))])
  (.i (.t 21) (.q (.o [.mv 2 (.c (.i .i64 0))])
  (.r))
  (.k)))
  (.o [.mv 22 (.t 3),
   .mv 23 (.t 4),
   .bn 24 .add (.c (.i .i64 1)) (.t 23),
   .bn 25 .add (.t 22) (.t 24),
   .mv 3 (.t 25)])))))))))
  (.q (.o [.mv 2 (.c (.i .i64 0))])
  (.r)))⟩
abbrev YL:Nat:=256
theorem Jf7:Qi Go.Proofs.Tryz.prog YW 256=true:=by kernel_rfl
def Xg:Fn:=⟨1,[(.t 2),(.t 3)],
  .q (.o [.mv 2 (.c .ns),
   .mv 3 (.c (.i .i64 0))])
  (.q (.o [.mv 4 (.c .ns)])
  (.q (.o [.mv 5 (.c (.i .i64 (-1)))])
  (.q (.q (.o [.mv 6 (.c (.i .i64 0))])
  (.b 0 (.l [0,4,5,6] (.q (.q (.o [.mv 11 (.t 6),
   .mv 12 (.t 0),
   .lns 13 (.t 12),
   .bn 14 .lss (.t 11) (.t 13)])
  (.i (.t 14) (.k)
  (.x 0)))
  (.b 1 (.q (.q (.o [.mv 15 (.t 6),
   .bn 16 .add (.t 15) (.c (.i .i64 2)),
   .mv 17 (.t 0),
   .lns 18 (.t 17),
   .bn 19 .gtr (.t 16) (.t 18)])
  (.i (.t 19) (.q (.o [.mv 2 (.c .ns),
   .mv 3 (.c (.i .i64 7))])
  (.r))
  (.k)))
  (.q (.p [⟨.mv 20 (.t 0),[],false⟩,
   ⟨.mv 21 (.t 6),[],false⟩,
   ⟨.ix 22 (.t 20) (.t 21),[],false⟩,
   ⟨.ci 23 .i64 (.t 22),[],false⟩,
   ⟨.mv 24 (.t 0),[],false⟩,
   ⟨.mv 25 (.t 6),[],false⟩,
   ⟨.bn 26 .add (.t 25) (.c (.i .i64 1)),[],false⟩,
   ⟨.ix 27 (.t 24) (.t 26),[],false⟩,
   ⟨.ci 28 .i64 (.t 27),[],false⟩,
   ⟨.mv 7 (.t 23),[],false⟩,
   ⟨.mv 8 (.t 28),[],false⟩])
  (.q (.q (.o [.mv 29 (.t 7),
   .mv 30 (.t 5),
   .bn 31 .leq (.t 29) (.t 30),
   .mv 32 (.t 31),
   .gd 32 false (.mv 33 (.t 8)),
   .gd 32 false (.bn 34 .lss (.t 33) (.c (.i .i64 1))),
   .pk 35 (.t 32) (.c (.b true)) (.t 34),
   .mv 36 (.t 35),
   .gd 36 false (.mv 37 (.t 8)),
   .gd 36 false (.bn 38 .gtr (.t 37) (.c (.i .i64 32))),
   .pk 39 (.t 36) (.c (.b true)) (.t 38),
   .mv 40 (.t 39),
   .gd 40 false (.mv 41 (.t 6)),
   .gd 40 false (.bn 42 .add (.t 41) (.c (.i .i64 2))),
   .gd 40 false (.mv 43 (.t 8)),
   .gd 40 false (.bn 44 .add (.t 42) (.t 43)),
   .gd 40 false (.mv 45 (.t 0)),
   .gd 40 false (.lns 46 (.t 45)),
   .gd 40 false (.bn 47 .gtr (.t 44) (.t 46)),
   .pk 48 (.t 40) (.c (.b true)) (.t 47),
   .mv 49 (.t 48),
   .gd 49 false (.mv 50 (.t 0)),
   .gd 49 false (.mv 51 (.t 6)),
   .gd 49 false (.bn 52 .add (.t 51) (.c (.i .i64 1))),
   .gd 49 false (.mv 53 (.t 8)),
   .gd 49 false (.bn 54 .add (.t 52) (.t 53)),
   .gd 49 false (.ix 55 (.t 50) (.t 54)),
   .gd 49 false (.bn 56 .eql (.t 55) (.c (.i .u8 0))),
   .pk 57 (.t 49) (.c (.b true)) (.t 56)])
  (.i (.t 57) (.q (.o [.mv 2 (.c .ns),
   .mv 3 (.c (.i .i64 7))])
  (.r))
  (.k)))
  (.q (.o [.mv 58 (.t 7),
   .mv 5 (.t 58)])
  (.q (.q (.o [.mv 9 (.c (.i .i64 0))])
  (.b 2 (.l [0,4,5,6,7,8,9] (.q (.q (.o [.mv 59 (.t 9),
   .mv 60 (.t 8),
   .bn 61 .lss (.t 59) (.t 60)])
  (.i (.t 61) (.k)
  (.x 2)))
  (.q (.b 3 (.q (.o [.mv 10 (.c (.i .i64 0))])
  (.b 4 (.l [0,4,5,6,7,8,9,10] (.q (.q (.o [.mv 64 (.t 10),
   .bn 65 .lss (.t 64) (.c (.i .i64 8))])
  (.i (.t 65) (.k)
  (.x 4)))
  (.q (.b 5 (.q (.o [.mv 68 (.t 0),
   .mv 69 (.t 6),
   .bn 70 .add (.t 69) (.c (.i .i64 2)),
   .mv 71 (.t 9),
   .bn 72 .add (.t 70) (.t 71),
   .ix 73 (.t 68) (.t 72),
   .mv 74 (.t 10),
   .bn 75 .sub (.c (.i .i64 7)) (.t 74),
   .bn 76 .shr (.t 73) (.t 75),
   .bn 77 .and (.t 76) (.c (.i .u8 1)),
   .bn 78 .eql (.t 77) (.c (.i .u8 1))])
  (.i (.t 78) (.o [.mv 79 (.t 4),
   .mv 80 (.t 7),
   .bn 81 .mul (.c (.i .i64 256)) (.t 80),
   .mv 82 (.t 9),
   .bn 83 .mul (.c (.i .i64 8)) (.t 82),
   .bn 84 .add (.t 81) (.t 83),
   .mv 85 (.t 10),
   .bn 86 .add (.t 84) (.t 85),
   .lbs 87 (.i .i64 0) 1 1 [(0,(.t 86))],
   .ap 88 (.t 79) (.t 87) 1 8,
   .mv 4 (.t 88)])
  (.k))))
  (.o [.mv 66 (.t 10),
   .bn 67 .add (.t 66) (.c (.i .i64 1)),
   .mv 10 (.t 67)])))))))
  (.o [.mv 62 (.t 9),
   .bn 63 .add (.t 62) (.c (.i .i64 1)),
   .mv 9 (.t 63)]))))))
  (.o [.mv 89 (.t 6),
   .mv 90 (.t 8),
   .bn 91 .add (.c (.i .i64 2)) (.t 90),
   .bn 92 .add (.t 89) (.t 91),
   .mv 6 (.t 92)])))))))))))
  (.q (.o [.mv 93 (.t 4),
   .mv 2 (.t 93),
   .mv 3 (.c (.i .i64 0))])
  (.r)))))⟩
abbrev XJ:Nat:=257
theorem JeN:Qi Go.Proofs.Tryz.prog Xg 257=true:=by kernel_rfl
def X5:Fn:=⟨1,[(.t 2)],
  .q (.o [.mv 2 (.c (.s []))])
  (.q (.q (.o [.mv 3 (.t 0)])
  (.b 0 (.q (.o [.bn 5 .eql (.t 3) (.c (.i .i64 1)),
   .mv 4 (.t 5)])
  (.i (.t 4) (.q (.o [.mv 2 (.c (.s [98,98,98,98]))])
  (.r))
  (.q (.q (.o [.bn 7 .eql (.t 3) (.c (.i .i64 2)),
   .mv 6 (.t 7)])
  (.i (.t 6) (.k)
  (.q (.o [.bn 8 .eql (.t 3) (.c (.i .i64 5)),
   .mv 6 (.t 8)])
  (.i (.t 6) (.k)
  (.q (.o [.bn 9 .eql (.t 3) (.c (.i .i64 12)),
   .mv 6 (.t 9)])
  (.i (.t 6) (.k)
  (.o [.bn 10 .eql (.t 3) (.c (.i .i64 39)),
   .mv 6 (.t 10)])))))))
  (.i (.t 6) (.q (.o [.mv 2 (.c (.s [110]))])
  (.r))
  (.q (.o [.bn 12 .eql (.t 3) (.c (.i .i64 6)),
   .mv 11 (.t 12)])
  (.i (.t 11) (.q (.o [.mv 2 (.c (.s [110,110,98,98,98,98,98,98,98,98,98,98,98,98,98,98,98,98,98,98,98,98]))])
  (.r))
  (.q (.o [.bn 14 .eql (.t 3) (.c (.i .i64 13)),
   .mv 13 (.t 14)])
  (.i (.t 13) (.q (.o [.mv 2 (.c (.s [116,116]))])
  (.r))
  (.q (.o [.bn 16 .eql (.t 3) (.c (.i .i64 15)),
   .mv 15 (.t 16)])
  (.i (.t 15) (.q (.o [.mv 2 (.c (.s [98,98,110]))])
  (.r))
  (.q (.o [.bn 18 .eql (.t 3) (.c (.i .i64 16)),
   .mv 17 (.t 18)])
  (.i (.t 17) (.q (.o [.mv 2 (.c (.s [115]))])
  (.r))
  (.q (.o [.bn 20 .eql (.t 3) (.c (.i .i64 28)),
   .mv 19 (.t 20)])
  (.i (.t 19) (.q (.o [.mv 2 (.c (.s [98,98,98,98,98,98,98,98,98,98,98,98,98,98,98,98]))])
  (.r))
  (.q (.o [.bn 22 .eql (.t 3) (.c (.i .i64 33)),
   .mv 21 (.t 22)])
  (.i (.t 21) (.q (.o [.mv 2 (.c (.s [98,98,98,98,98,98,110]))])
  (.r))
  (.q (.o [.bn 24 .eql (.t 3) (.c (.i .i64 35)),
   .mv 23 (.t 24)])
  (.i (.t 23) (.q (.o [.mv 2 (.c (.s [98,98,98,98,116,116,116,110]))])
  (.r))
  (.q (.o [.bn 26 .eql (.t 3) (.c (.i .i64 47)),
   .mv 25 (.t 26)])
  (.i (.t 25) (.q (.o [.mv 2 (.c (.s [110,109]))])
  (.r))
  (.q (.o [.bn 28 .eql (.t 3) (.c (.i .i64 257)),
   .mv 27 (.t 28)])
  (.i (.t 27) (.q (.o [.mv 2 (.c (.s [98,99]))])
  (.r))
  (.k)))))))))))))))))))))))))
  (.q (.o [.mv 2 (.c (.s [42]))])
  (.r)))⟩
abbrev X4:Nat:=290
theorem Jfq:Qi Go.Proofs.Tryz.prog X5 290=true:=by kernel_rfl
def Qp:Fn:=⟨2,[(.t 4),(.t 5)],
  .q (.o [.mv 4 (.c .ns),
   .mv 5 (.c (.b false))])
  (.q (.o [.bs 10 (.s []) 1 0 [],
   .mv 6 (.t 10)])
  (.q (.q (.o [.mv 7 (.c (.i .i64 0))])
  (.b 0 (.l [0,1,6,7] (.q (.q (.o [.mv 11 (.t 7),
   .mv 12 (.t 0),
   .lns 13 (.t 12),
   .bn 14 .lss (.t 11) (.t 13)])
  (.i (.t 14) (.k)
  (.x 0)))
  (.q (.b 1 (.q (.o [.mv 8 (.c (.s []))])
  (.q (.q (.o [.mv 17 (.t 0),
   .mv 18 (.t 7),
   .ix 19 (.t 17) (.t 18)])
  (.b 2 (.q (.o [.bn 21 .eql (.t 19) (.c (.i .u8 110)),
   .mv 20 (.t 21)])
  (.i (.t 20) (.o [.mv 22 (.t 1),
   .cl (some 23) 316 [(.t 22)],
   .mv 8 (.t 23)])
  (.q (.o [.bn 25 .eql (.t 19) (.c (.i .u8 98)),
   .mv 24 (.t 25)])
  (.i (.t 24) (.q (.o [.mv 26 (.t 1),
   .bn 27 .neq (.t 26) (.c (.s []))])
  (.i (.t 27) (.o [.mv 28 (.t 1),
   .ss 29 (.t 28) none (some (.c (.i .i64 1))),
   .mv 8 (.t 29)])
  (.k)))
  (.q (.o [.bn 31 .eql (.t 19) (.c (.i .u8 116)),
   .mv 30 (.t 31)])
  (.i (.t 30) (.o [.mv 32 (.t 1),
   .cl (some 33) 318 [(.t 32)],
   .mv 8 (.t 33)])
  (.q (.o [.bn 35 .eql (.t 19) (.c (.i .u8 115)),
   .mv 34 (.t 35)])
  (.i (.t 34) (.b 3 (.l [0,1,6,7,8] (.q (.q (.o [.mv 36 (.t 1),
   .mv 37 (.t 8),
   .lns 38 (.t 37),
   .ss 39 (.t 36) (some (.t 38)) none,
   .cl (some 40) 318 [(.t 39)],
   .bn 41 .neq (.t 40) (.c (.s []))])
  (.i (.t 41) (.k)
  (.x 3)))
  (.b 4 (.o [.mv 42 (.t 8),
   .mv 43 (.t 1),
   .mv 44 (.t 8),
   .lns 45 (.t 44),
   .ss 46 (.t 43) (some (.t 45)) none,
   .cl (some 47) 318 [(.t 46)],
   .bn 48 .add (.t 42) (.t 47),
   .mv 8 (.t 48)])))))
  (.q (.o [.bn 50 .eql (.t 19) (.c (.i .u8 99)),
   .mv 49 (.t 50)])
  (.i (.t 49) (.q (.o [.mv 51 (.t 1),
   .cl (some 52) 318 [(.t 51)],
   .mv 8 (.t 52)])
  (.q (.q (.o [.mv 53 (.t 8),
   .lns 54 (.t 53),
   .bn 55 .lss (.t 54) (.c (.i .i64 2)),
   .mv 56 (.t 55),
   .gd 56 false (.mv 57 (.t 8)),
   .gd 56 false (.lns 58 (.t 57)),
   .gd 56 false (.bn 59 .gtr (.t 58) (.c (.i .i64 16))),
   .pk 60 (.t 56) (.c (.b true)) (.t 59)])
  (.i (.t 60) (.q (.o [.mv 4 (.c .ns),
   .mv 5 (.c (.b false))])
  (.r))
  (.k)))
  (.q (.q (.o [.mv 9 (.c (.i .i64 1))])
  (.b 5 (.l [0,1,6,7,8,9] (.q (.q (.o [.mv 61 (.t 9),
   .mv 62 (.t 8),
   .lns 63 (.t 62),
   .bn 64 .lss (.t 61) (.t 63)])
  (.i (.t 64) (.k)
  (.x 5)))
  (.q (.b 6 (.q (.o [.mv 67 (.t 8),
   .mv 68 (.t 9),
   .ix 69 (.t 67) (.t 68),
   .cl (some 70) 319 [(.t 69)],
   .un 71 .not (.t 70)])
  (.i (.t 71) (.q (.o [.mv 4 (.c .ns),
   .mv 5 (.c (.b false))])
  (.r))
  (.k))))
  (.o [.mv 65 (.t 9),
   .bn 66 .add (.t 65) (.c (.i .i64 1)),
   .mv 9 (.t 66)]))))))
  (.o [.mv 72 (.t 1),
   .mv 8 (.t 72)]))))
  (.q (.o [.bn 74 .eql (.t 19) (.c (.i .u8 109)),
   .mv 73 (.t 74)])
  (.i (.t 73) (.q (.q (.o [.mv 75 (.t 1),
   .cl (some 76) 320 [(.t 75)],
   .un 77 .not (.t 76)])
  (.i (.t 77) (.q (.o [.mv 4 (.c .ns),
   .mv 5 (.c (.b false))])
  (.r))
  (.k)))
  (.o [.mv 78 (.t 1),
   .mv 8 (.t 78)]))
  (.q (.o [.bn 80 .eql (.t 19) (.c (.i .u8 42)),
   .mv 79 (.t 80)])
  (.i (.t 79) (.o [.mv 81 (.t 1),
   .mv 8 (.t 81)])
  (.k)))))))))))))))))
  (.q (.q (.o [.mv 82 (.t 8),
   .bn 83 .eql (.t 82) (.c (.s [])),
   .mv 84 (.t 83),
   .gd 84 true (.mv 85 (.t 0)),
   .gd 84 true (.mv 86 (.t 7)),
   .gd 84 true (.ix 87 (.t 85) (.t 86)),
   .gd 84 true (.bn 88 .neq (.t 87) (.c (.i .u8 109))),
   .pk 89 (.t 84) (.t 88) (.c (.b false)),
   .mv 90 (.t 89),
   .gd 90 true (.mv 91 (.t 0)),
   .gd 90 true (.mv 92 (.t 7)),
   .gd 90 true (.ix 93 (.t 91) (.t 92)),
   .gd 90 true (.bn 94 .neq (.t 93) (.c (.i .u8 42))),
   .pk 95 (.t 90) (.t 94) (.c (.b false))])
  (.i (.t 95) (.q (.o [.mv 4 (.c .ns),
   .mv 5 (.c (.b false))])
  (.r))
  (.k)))
  (.q (.o [.mv 96 (.t 6),
   .mv 97 (.t 8),
   .lbs 98 (.s []) 1 1 [(0,(.t 97))],
   .ap 99 (.t 96) (.t 98) 1 16,
   .mv 6 (.t 99)])
  (.o [.mv 100 (.t 1),
   .mv 101 (.t 8),
   .lns 102 (.t 101),
   .ss 103 (.t 100) (some (.t 102)) none,
   .mv 1 (.t 103)]))))))
  (.o [.mv 15 (.t 7),
   .bn 16 .add (.t 15) (.c (.i .i64 1)),
   .mv 7 (.t 16)]))))))
  (.q (.o [.mv 104 (.t 6),
   .mv 105 (.t 1),
   .bn 106 .eql (.t 105) (.c (.s [])),
   .mv 4 (.t 104),
   .mv 5 (.t 106)])
  (.r))))⟩
abbrev XC:Nat:=291
theorem Jd9:Qi Go.Proofs.Tryz.prog Qp 291=true:=by kernel_rfl
def Wx:Fn:=⟨1,[(.t 2)],
  .q (.o [.mv 2 (.c (.s []))])
  (.q (.o [.mv 3 (.c (.i .i64 0))])
  (.q (.b 0 (.l [0,3] (.q (.q (.o [.mv 5 (.t 3),
   .mv 6 (.t 0),
   .lns 7 (.t 6),
   .bn 8 .lss (.t 5) (.t 7),
   .mv 9 (.t 8),
   .gd 9 true (.mv 10 (.t 3)),
   .gd 9 true (.bn 11 .lss (.t 10) (.c (.i .i64 255))),
   .pk 12 (.t 9) (.t 11) (.c (.b false))])
  (.i (.t 12) (.k)
  (.x 0)))
  (.b 1 (.q (.o [.mv 13 (.t 0),
   .mv 14 (.t 3),
   .ix 15 (.t 13) (.t 14),
   .ci 16 .i64 (.t 15),
   .mv 4 (.t 16)])
  (.q (.q (.o [.mv 17 (.t 4),
   .bn 18 .eql (.t 17) (.c (.i .i64 0))])
  (.i (.t 18) (.q (.o [.mv 19 (.t 0),
   .mv 20 (.t 3),
   .bn 21 .add (.t 20) (.c (.i .i64 1)),
   .ss 22 (.t 19) none (some (.t 21)),
   .mv 2 (.t 22)])
  (.r))
  (.k)))
  (.q (.q (.o [.mv 23 (.t 4),
   .bn 24 .gtr (.t 23) (.c (.i .i64 63))])
  (.i (.t 24) (.q (.o [.mv 2 (.c (.s []))])
  (.r))
  (.k)))
  (.o [.mv 25 (.t 3),
   .mv 26 (.t 4),
   .bn 27 .add (.t 25) (.t 26),
   .bn 28 .add (.t 27) (.c (.i .i64 1)),
   .mv 3 (.t 28)]))))))))
  (.q (.o [.mv 2 (.c (.s []))])
  (.r))))⟩
abbrev WL:Nat:=316
theorem Jdr:Qi Go.Proofs.Tryz.prog Wx 316=true:=by kernel_rfl
def X6:Fn:=⟨1,[(.t 2)],
  .q (.o [.mv 2 (.c (.s []))])
  (.q (.q (.o [.mv 3 (.t 0),
   .bn 4 .eql (.t 3) (.c (.s [])),
   .mv 5 (.t 4),
   .gd 5 false (.mv 6 (.t 0)),
   .gd 5 false (.lns 7 (.t 6)),
   .gd 5 false (.mv 8 (.t 0)),
   .gd 5 false (.ix 9 (.t 8) (.c (.i .i64 0))),
   .gd 5 false (.ci 10 .i64 (.t 9)),
   .gd 5 false (.bn 11 .add (.t 10) (.c (.i .i64 1))),
   .gd 5 false (.bn 12 .lss (.t 7) (.t 11)),
   .pk 13 (.t 5) (.c (.b true)) (.t 12)])
  (.i (.t 13) (.q (.o [.mv 2 (.c (.s []))])
  (.r))
  (.k)))
  (.q (.o [.mv 14 (.t 0),
   .mv 15 (.t 0),
   .ix 16 (.t 15) (.c (.i .i64 0)),
   .ci 17 .i64 (.t 16),
   .bn 18 .add (.t 17) (.c (.i .i64 1)),
   .ss 19 (.t 14) none (some (.t 18)),
   .mv 2 (.t 19)])
  (.r)))⟩
abbrev XZ:Nat:=318
theorem Jfa:Qi Go.Proofs.Tryz.prog X6 318=true:=by kernel_rfl
def XE:Fn:=⟨1,[(.t 2)],
  .q (.o [.mv 2 (.c (.b false))])
  (.q (.o [.mv 3 (.t 0),
   .bn 4 .geq (.t 3) (.c (.i .u8 48)),
   .mv 5 (.t 4),
   .gd 5 true (.mv 6 (.t 0)),
   .gd 5 true (.bn 7 .leq (.t 6) (.c (.i .u8 57))),
   .pk 8 (.t 5) (.t 7) (.c (.b false)),
   .mv 9 (.t 8),
   .gd 9 false (.mv 10 (.t 0)),
   .gd 9 false (.bn 11 .geq (.t 10) (.c (.i .u8 97))),
   .gd 9 false (.mv 12 (.t 11)),
   .gd 12 true (.mv 13 (.t 0)),
   .gd 12 true (.bn 14 .leq (.t 13) (.c (.i .u8 122))),
   .gd 9 false (.pk 15 (.t 12) (.t 14) (.c (.b false))),
   .pk 16 (.t 9) (.c (.b true)) (.t 15),
   .mv 17 (.t 16),
   .gd 17 false (.mv 18 (.t 0)),
   .gd 17 false (.bn 19 .geq (.t 18) (.c (.i .u8 65))),
   .gd 17 false (.mv 20 (.t 19)),
   .gd 20 true (.mv 21 (.t 0)),
   .gd 20 true (.bn 22 .leq (.t 21) (.c (.i .u8 90))),
   .gd 17 false (.pk 23 (.t 20) (.t 22) (.c (.b false))),
   .pk 24 (.t 17) (.c (.b true)) (.t 23),
   .mv 2 (.t 24)])
  (.r))⟩
abbrev Xo:Nat:=319
theorem JdU:Qi Go.Proofs.Tryz.prog XE 319=true:=by kernel_rfl
def Y9:Fn:=⟨1,[(.t 2)],
  .q (.o [.mv 2 (.c (.b false))])
  (.q (.o [.mv 3 (.c (.i .i64 (-1)))])
  (.q (.b 0 (.l [0,3] (.q (.q (.o [.mv 6 (.t 0),
   .bn 7 .neq (.t 6) (.c (.s []))])
  (.i (.t 7) (.k)
  (.x 0)))
  (.b 1 (.q (.q (.o [.mv 8 (.t 0),
   .lns 9 (.t 8),
   .bn 10 .lss (.t 9) (.c (.i .i64 2))])
  (.i (.t 10) (.q (.o [.mv 2 (.c (.b false))])
  (.r))
  (.k)))
  (.q (.o [.mv 11 (.t 0),
   .ix 12 (.t 11) (.c (.i .i64 0)),
   .ci 13 .i64 (.t 12),
   .mv 4 (.t 13)])
  (.q (.o [.mv 14 (.t 0),
   .ix 15 (.t 14) (.c (.i .i64 1)),
   .ci 16 .i64 (.t 15),
   .mv 5 (.t 16)])
  (.q (.q (.o [.mv 17 (.t 4),
   .mv 18 (.t 3),
   .bn 19 .leq (.t 17) (.t 18),
   .mv 20 (.t 19),
   .gd 20 false (.mv 21 (.t 5)),
   .gd 20 false (.bn 22 .lss (.t 21) (.c (.i .i64 1))),
   .pk 23 (.t 20) (.c (.b true)) (.t 22),
   .mv 24 (.t 23),
   .gd 24 false (.mv 25 (.t 5)),
   .gd 24 false (.bn 26 .gtr (.t 25) (.c (.i .i64 32))),
   .pk 27 (.t 24) (.c (.b true)) (.t 26),
   .mv 28 (.t 27),
   .gd 28 false (.mv 29 (.t 0)),
   .gd 28 false (.lns 30 (.t 29)),
   .gd 28 false (.mv 31 (.t 5)),
   .gd 28 false (.bn 32 .add (.t 31) (.c (.i .i64 2))),
   .gd 28 false (.bn 33 .lss (.t 30) (.t 32)),
   .pk 34 (.t 28) (.c (.b true)) (.t 33),
   .mv 35 (.t 34),
   .gd 35 false (.mv 36 (.t 0)),
   .gd 35 false (.mv 37 (.t 5)),
   .gd 35 false (.bn 38 .add (.t 37) (.c (.i .i64 1))),
   .gd 35 false (.ix 39 (.t 36) (.t 38)),
   .gd 35 false (.bn 40 .eql (.t 39) (.c (.i .u8 0))),
   .pk 41 (.t 35) (.c (.b true)) (.t 40)])
  (.i (.t 41) (.q (.o [.mv 2 (.c (.b false))])
  (.r))
  (.k)))
  (.q (.o [.mv 42 (.t 4),
   .mv 3 (.t 42)])
  (.o [.mv 43 (.t 0),
   .mv 44 (.t 5),
   .bn 45 .add (.t 44) (.c (.i .i64 2)),
   .ss 46 (.t 43) (some (.t 45)) none,
   .mv 0 (.t 46)]))))))))))
  (.q (.o [.mv 2 (.c (.b true))])
  (.r))))⟩
abbrev Y4:Nat:=320
theorem Jf1:Qi Go.Proofs.Tryz.prog Y9 320=true:=by kernel_rfl
end Go.Vm
