/- Opening a message that is an argument. -/
import Derived.Test.YtfamnghjibckbaaRe1
import Derived.Test.YtfamnghjibckbaaVm23
namespace Go.Vm
set_option linter.unusedVariables false
set_option linter.unusedSimpArgs false
section
variable {P : Program} {w : World} {H : Type} {enc : TypeId × Value → H}
theorem open_Question {m e : Nat} (hf : flatTy P m e = some [.s, .i .i64, .i .i64]) : ∀ n vals z, DataW.trod enc P w 0 (fun _ => true) true n e vals = some z → ∃ x : Qn, pre_Question x ∧ ∀ ρ, All2 (VA ρ) (eQ.fn x) vals := by
  intro n vals z hz
  obtain ⟨us, h1, h2⟩ := flat_open hf hz
  have hl := h1.len
  obtain ⟨u1, u2, u3, rfl⟩ : ∃ u1 u2 u3, us = [u1, u2, u3] := by
    match us, hl with
    | [u1, u2, u3], _ => exact ⟨u1, u2, u3, rfl⟩
  obtain ⟨⟨d, rfl, hd⟩, ⟨c, rfl, -⟩, ⟨c', rfl, -⟩, -⟩ := h1
  exact ⟨⟨d, c, c'⟩, hd, h2⟩
theorem open_RR {m e : Nat} (hf : flatTy P m e = some [.s, .i .i64, .i .i64, .i .i64, .s]) : ∀ n vals z, DataW.trod enc P w 0 (fun _ => true) true n e vals = some z → ∃ x : Rr, pre_RR x ∧ ∀ ρ, All2 (VA ρ) (eR.fn x) vals := by
  intro n vals z hz
  obtain ⟨us, h1, h2⟩ := flat_open hf hz
  have hl := h1.len
  obtain ⟨u1, u2, u3, u4, u5, rfl⟩ : ∃ u1 u2 u3 u4 u5, us = [u1, u2, u3, u4, u5] := by
    match us, hl with
    | [u1, u2, u3, u4, u5], _ => exact ⟨u1, u2, u3, u4, u5, rfl⟩
  obtain ⟨⟨d, rfl, hd⟩, ⟨c, rfl, -⟩, ⟨c', rfl, -⟩, ⟨c2, rfl, -⟩, ⟨d', rfl, hd'⟩, -⟩ := h1
  exact ⟨⟨d, c, c', c2, d'⟩, ⟨hd, hd'⟩, h2⟩
theorem open_Head {m e : Nat} (hf : flatTy P m e = some [.i .i64, .b, .i .i64, .b, .b, .b, .b, .b, .b, .b, .i .i64]) : ∀ n vals z, DataW.trod enc P w 0 (fun _ => true) true n e vals = some z → ∃ x : Hd, ∀ ρ, All2 (VA ρ) (eH.fn x) vals := by
  intro n vals z hz
  obtain ⟨us, h1, h2⟩ := flat_open hf hz
  have hl := h1.len
  obtain ⟨u1, u2, u3, u4, u5, u6, u7, u8, u9, u10, u11, rfl⟩ : ∃ u1 u2 u3 u4 u5 u6 u7 u8 u9 u10 u11, us = [u1, u2, u3, u4, u5, u6, u7, u8, u9, u10, u11] := by
    match us, hl with
    | [u1, u2, u3, u4, u5, u6, u7, u8, u9, u10, u11], _ => exact ⟨u1, u2, u3, u4, u5, u6, u7, u8, u9, u10, u11, rfl⟩
  obtain ⟨⟨a1, rfl, -⟩, ⟨a2, rfl⟩, ⟨a3, rfl, -⟩, ⟨a4, rfl⟩, ⟨a5, rfl⟩, ⟨a6, rfl⟩, ⟨a7, rfl⟩, ⟨a8, rfl⟩, ⟨a9, rfl⟩, ⟨a10, rfl⟩, ⟨a11, rfl, -⟩, -⟩ := h1
  exact ⟨⟨a1, a2, a3, a4, a5, a6, a7, a8, a9, a10, a11⟩, h2⟩
theorem okRow {base : Nat} {t : TypeId} {cs : Array Value} {ts : List TypeId} (h : Row.okWide P w .any base t cs) (hts : P.cellTypes P.depth t = some ts) (hsz : cs.size = ts.length) : ∀ (i : Nat) (v : Value) (u : TypeId), cs[i]? = some v → ts[i]? = some u → Cell.okWide P w .any base u v := by
  obtain ⟨ts', h1, -, h3⟩ := h
  rw [hts] at h1
  cases h1
  intro i v u hv hu
  obtain ⟨u', h4, h5⟩ := h3 i v hv
  have hi := (List.getElem?_eq_some_iff.1 hu).1
  rw [Nat.mod_eq_of_lt hi, hu] at h4
  cases h4
  exact h5
theorem take_one {α : Type} {l : List α} {i : Nat} (h : i < l.length) : (l.drop i).take 1 = [l[i]] := by
  rw [List.drop_eq_getElem_cons h]; rfl
/-- The numbers of a message's types. -/
structure MsgTy (P : Program) (tM tH tQ tR eq er : TypeId) : Prop where
  fs : ∃ f0 f1 f2 f3 f4 : Field, P.underlying tM = some (.struct #[f0, f1, f2, f3, f4]) ∧ (f0.type = tH ∧ f0.offset = 0) ∧ (f1.type = tQ ∧ f1.offset = 11) ∧ (f2.type = tR ∧ f2.offset = 12) ∧ (f3.type = tR ∧ f3.offset = 13) ∧ (f4.type = tR ∧ f4.offset = 14)
  cM : P.cellsOf tM = 15
  cH : P.cellsOf tH = 11
  cQ : P.cellsOf tQ = 1
  cR : P.cellsOf tR = 1
  fH : flatTy P 4 tH = some [.i .i64, .b, .i .i64, .b, .b, .b, .b, .b, .b, .b, .i .i64]
  uQ : P.underlying tQ = some (.slice eq)
  uR : P.underlying tR = some (.slice er)
  zq : P.cellsOf eq = 3
  zr : P.cellsOf er = 5
  fq : flatTy P 4 eq = some [.s, .i .i64, .i .i64]
  fr : flatTy P 4 er = some [.s, .i .i64, .i .i64, .i .i64, .s]
  ts : ∃ ts, P.cellTypes P.depth tM = some ts ∧ ts.length = 15 ∧ ts[11]? = some tQ ∧ ts[12]? = some tR ∧ ts[13]? = some tR ∧ ts[14]? = some tR
theorem Fst.msg {base : Nat} {ρ0 : Rn} {H0 : AH} (F : Fst P ρ0 H0 w) {tM tH tQ tR eq er : TypeId} (T : MsgTy P tM tH tQ tR eq er) {v : Value} {d : DataW H} {ps : List MemPlace}
    (hval : Value.okWide P w .any base tM v) (hd : DataW.Trod enc P w 0 (fun _ => true) true tM v d ps) :
    ∃ ρ Hh q a b c m, Fst P ρ Hh w ∧ ρ0.Le ρ ∧ Ext H0 Hh ∧ V1 ρ (mV m.h q a b c) v ∧ MsgS Hh q a b c m ∧ preM m := by
  obtain ⟨f0, f1, f2, f3, f4, hM, ⟨y0, z0⟩, ⟨y1, z1⟩, ⟨y2, z2⟩, ⟨y3, z3⟩, ⟨y4, z4⟩⟩ := T.fs
  obtain ⟨ts, hts, htl, t11, t12, t13, t14⟩ := T.ts
  unfold Value.okWide at hval
  rw [hM] at hval
  obtain ⟨cs, rfl, hsz, hrow⟩ := hval
  rw [T.cM] at hsz
  have hcell := okRow hrow hts (by omega)
  obtain ⟨fuel, hd⟩ := hd
  have hd' : DataW.trod enc P w 0 (fun _ => true) true fuel tM cs.toList = some (d, ps) := hd
  obtain ⟨xs, n, -, -, hl, hxl, hf⟩ := DataW.trod_struct hM hd'
  have hl' : cs.toList.length = 15 := by simpa using hsz
  have hx : xs.length = 5 := hxl
  have g0 := hf 0 f0 rfl
  have g1 := hf 1 f1 rfl
  have g2 := hf 2 f2 rfl
  have g3 := hf 3 f3 rfl
  have g4 := hf 4 f4 rfl
  rw [y0, z0, T.cH, List.drop_zero, List.getElem?_eq_getElem (by omega)] at g0
  rw [y1, z1, T.cQ, take_one (by omega), List.getElem?_eq_getElem (by omega)] at g1
  rw [y2, z2, T.cR, take_one (by omega), List.getElem?_eq_getElem (by omega)] at g2
  rw [y3, z3, T.cR, take_one (by omega), List.getElem?_eq_getElem (by omega)] at g3
  rw [y4, z4, T.cR, take_one (by omega), List.getElem?_eq_getElem (by omega)] at g4
  obtain ⟨hd, h0⟩ := open_Head T.fH _ _ _ g0
  obtain ⟨ρ1, H1, q, lq, F1, le1, e1, r1, b1, n1, p1⟩ := F.slice (E := eQ) (pre := pre_Question) T.uQ T.zq (by decide) (open_Question T.fq) (hcell 11 _ _ (by simp) t11) g1
  obtain ⟨ρ2, H2, a, la, F2, le2, e2, r2, b2, n2, p2⟩ := F1.slice (E := eR) (pre := pre_RR) T.uR T.zr (by decide) (open_RR T.fr) (hcell 12 _ _ (by simp) t12) g2
  obtain ⟨ρ3, H3, b, lb, F3, le3, e3, r3, b3, n3, p3⟩ := F2.slice (E := eR) (pre := pre_RR) T.uR T.zr (by decide) (open_RR T.fr) (hcell 13 _ _ (by simp) t13) g3
  obtain ⟨ρ4, H4, c, lc, F4, le4, e4, r4, b4, n4, p4⟩ := F3.slice (E := eR) (pre := pre_RR) T.uR T.zr (by decide) (open_RR T.fr) (hcell 14 _ _ (by simp) t14) g4
  refine ⟨ρ4, H4, q, a, b, c, ⟨hd, lq, la, lb, lc⟩, F4, ((le1.trans le2).trans le3).trans le4, ((e1.trans e2).trans e3).trans e4, ⟨cs, rfl, ?_⟩,
    ⟨Sl.ext b1 ((e2.trans e3).trans e4), Sl.ext b2 (e3.trans e4), Sl.ext b3 e4, b4⟩, ⟨⟨n1, p1⟩, ⟨n2, p2⟩, ⟨n3, p3⟩, ⟨n4, p4⟩⟩⟩
  have e : cs.toList = cs.toList.take 11 ++ [cs.toList[11], cs.toList[12], cs.toList[13], cs.toList[14]] := by
    conv => lhs; rw [← List.take_append_drop 11 cs.toList]
    rw [List.drop_eq_getElem_cons (by omega), List.drop_eq_getElem_cons (by omega), List.drop_eq_getElem_cons (by omega), List.drop_eq_getElem_cons (by omega), List.drop_of_length_le (by omega)]
  rw [e]
  refine All2.append (l := eH.fn hd) (l' := [q, a, b, c]) (h0 ρ4) ⟨VA.of (VP.mono ((le2.trans le3).trans le4) r1), VA.of (VP.mono (le3.trans le4) r2), VA.of (VP.mono le4 r3), VA.of r4, trivial⟩
end
end Go.Vm
