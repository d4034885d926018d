import Derived.Test.YtfamnghjibckbaaDoorRt3
import Derived.Test.YtfamnghjibckbaaDoorRt10
/- The program's writer of messages: whole messages. -/
namespace Go.Vm
set_option linter.unusedVariables false
set_option linter.unusedSimpArgs false
theorem or_nat {x y k : Nat} (hx : x % 2 ^ k = 0) (hy : y < 2 ^ k) (h : x + y < 9223372036854775808) : bitw .or .i64 (x : Int) (y : Int) = ((x + y : Nat) : Int) := by
  have e2 : x ||| y = x + y := by
    have h1 := Nat.two_pow_add_eq_or_of_lt (i := k) (b := y) hy (x / 2 ^ k)
    have h2 : 2 ^ k * (x / 2 ^ k) = x := Nat.mul_div_cancel' (Nat.dvd_of_mod_eq_zero hx)
    rw [h2] at h1
    exact h1.symm
  unfold bitw
  simp only
  rw [show IntKind.i64.bits = 64 from rfl, BitVec.ofInt_natCast, BitVec.ofInt_natCast, BitVec.toNat_or, BitVec.toNat_ofNat, BitVec.toNat_ofNat, Nat.mod_eq_of_lt (by omega), Nat.mod_eq_of_lt (by omega), e2, w64 (by omega) (by omega)]
theorem bN_or (b : Bool) (k : Nat) : ∃ x, x ≤ 1 ∧ bN b k = x * 2 ^ k := by
  cases b
  · exact ⟨0, by omega, by simp [bN]⟩
  · exact ⟨1, by omega, by simp [bN]⟩
def T_eflag (C : Tab) (f : Nat) : Prop := ∀ (b : Bool) (k : Nat) (H : AH), k ≤ 62 → C f [.b b, .i .u64 k] H = some (.i .i64 (bN b k : Nat), H)
section
variable {C : Tab}
theorem r_eflag {b : Bool} {k : Nat} {H : AH} (hk : k ≤ 62) : Runs C c_impl_flag [.b b, .i .u64 k] H fun v H' => H' = H ∧ v = .i .i64 (bN b k : Nat) := by
  refine (r_flag (b := b) (k := k) (by omega) (by omega)).mono fun v H' h => ⟨h.1, ?_⟩
  rw [h.2, Int.toNat_natCast]
  cases b
  · rfl
  · simp only [bN, if_true]
    congr 1
set_option maxRecDepth 100000 in
set_option maxHeartbeats 2000000 in
theorem r_ewrite {q a b c : AV} {m : Msg} {H : AH} (hFl : T_eflag C n_impl_flag) (hP : T_p16 C n_impl_p16) (hT : T_putW C n_impl_encoder_put) (hN : T_ename C n_impl_encoder_name) (hR : T_erec C n_impl_encoder_record) (hF : FormsOK H) (h : MsgS H q a b c m) (hs : szM m ≤ 1048576) (hm : msgOk m = true) :
    Runs C c_impl_encoded [mV m.h q a b c] H fun v H' => Ext H H' ∧ Mb H' v (wrM m).1 ∧ ∀ i, i ∈ idA v → H.n ≤ i := by
  unfold Runs
  obtain ⟨B, hB, hcut⟩ := cut_at c_impl_encoded [1, 1, 1, 1, 1, 1]
  rw [hcut]
  simp only [c_impl_encoded, sPut]
  unfold mV
  obtain ⟨g0, g1, g2, g3, g4, g5⟩ := msgOk_iff hm
  have hs' := hs
  unfold szM at hs'
  have o1 := h.hq.out
  have o2 := h.ha.out
  have o3 := h.hb.out
  have o4 := h.hc.out
  have y1 := h.hq.one
  have y2 := h.ha.one
  have y3 := h.hb.one
  have y4 := h.hc.one
  obtain ⟨l1, m1⟩ := h.hq.len
  obtain ⟨l2, m2⟩ := h.ha.len
  obtain ⟨l3, m3⟩ := h.hb.len
  obtain ⟨l4, m4⟩ := h.hc.len
  obtain ⟨Ha, hHa⟩ : ∃ Ha : AH, Ha = (H.new (.map true [])).new (.arr true 0 2 [.ag [.ns, .mp H.n]]) := ⟨_, rfl⟩
  have eA : Ext H Ha := by rw [hHa]; exact (Ext.new _ _).trans (Ext.new _ _)
  have hw0 : EncS Ha H.n (H.n + 1) ([], []) := by
    rw [hHa]
    exact ⟨⟨.ns, H.n, ⟨by simp, new_at⟩, .nil, (by show H.n < H.n + 1 + 1; omega), (new_old (by simp)).trans new_at, by simp [idA], by omega, by simp [idA], Nat.le_refl _, by simp [idA]⟩, by omega⟩
  obtain ⟨i1, i2, i3⟩ := hdOk_iff g0
  have hbB : exec C B = exec C B := rfl
  have f15 := fun (H : AH) => hFl m.h.qr 15 H (by omega)
  have f10 := fun (H : AH) => hFl m.h.aa 10 H (by omega)
  have f9 := fun (H : AH) => hFl m.h.tc 9 H (by omega)
  have f8 := fun (H : AH) => hFl m.h.rd 8 H (by omega)
  have f7 := fun (H : AH) => hFl m.h.ra 7 H (by omega)
  have f6 := fun (H : AH) => hFl m.h.z 6 H (by omega)
  have f5 := fun (H : AH) => hFl m.h.ad 5 H (by omega)
  have f4 := fun (H : AH) => hFl m.h.cd 4 H (by omega)
  simp only [show ((15 : Nat) : Int) = 15 from rfl, show ((10 : Nat) : Int) = 10 from rfl, show ((9 : Nat) : Int) = 9 from rfl, show ((8 : Nat) : Int) = 8 from rfl, show ((7 : Nat) : Int) = 7 from rfl, show ((6 : Nat) : Int) = 6 from rfl, show ((5 : Nat) : Int) = 5 from rfl, show ((4 : Nat) : Int) = 4 from rfl] at f15 f10 f9 f8 f7 f6 f5 f4
  obtain ⟨x15, c15, b15⟩ := bN_or m.h.qr 15
  obtain ⟨x10, c10, b10⟩ := bN_or m.h.aa 10
  obtain ⟨x9, c9, b9⟩ := bN_or m.h.tc 9
  obtain ⟨x8, c8, b8⟩ := bN_or m.h.rd 8
  obtain ⟨x7, c7, b7⟩ := bN_or m.h.ra 7
  obtain ⟨x6, c6, b6⟩ := bN_or m.h.z 6
  obtain ⟨x5, c5, b5⟩ := bN_or m.h.ad 5
  obtain ⟨x4, c4, b4⟩ := bN_or m.h.cd 4
  simp only [Nat.reducePow] at b15 b10 b9 b8 b7 b6 b5 b4
  have hflg : flg m.h = bN m.h.qr 15 + m.h.op.toNat * 2048 + bN m.h.aa 10 + bN m.h.tc 9 + bN m.h.rd 8 + bN m.h.ra 7 + bN m.h.z 6 + bN m.h.ad 5 + bN m.h.cd 4 + m.h.code.toNat := rfl
  have eop : m.h.op = ((m.h.op.toNat : Nat) : Int) := by omega
  have ecode : m.h.code = ((m.h.code.toNat : Nat) : Int) := by omega
  have eid : m.h.id = ((m.h.id.toNat : Nat) : Int) := by omega
  have op15 : m.h.op.toNat ≤ 15 := by omega
  have co15 : m.h.code.toNat ≤ 15 := by omega
  generalize m.h.op.toNat = op at *
  generalize m.h.code.toNat = code at *
  generalize bN m.h.qr 15 = n15 at *
  generalize bN m.h.aa 10 = n10 at *
  generalize bN m.h.tc 9 = n9 at *
  generalize bN m.h.rd 8 = n8 at *
  generalize bN m.h.ra 7 = n7 at *
  generalize bN m.h.z 6 = n6 at *
  generalize bN m.h.ad 5 = n5 at *
  generalize bN m.h.cd 4 = n4 at *
  have hm11 : min 11 IntKind.i64.bits = 11 := rfl
  have e11 : (2 : Int) ^ 11 = 2048 := by decide
  have s0 : IntKind.i64.wrap ((op : Int) * 2048) = ((op * 2048 : Nat) : Int) := by rw [w64 (by omega) (by omega)]; rfl
  have s1 : bitw .or .i64 (n15 : Int) ((op * 2048 : Nat) : Int) = ((n15 + op * 2048 : Nat) : Int) := or_nat (k := 15) (by omega) (by omega) (by omega)
  have s2 : bitw .or .i64 ((n15 + op * 2048 : Nat) : Int) (n10 : Int) = ((n15 + op * 2048 + n10 : Nat) : Int) := or_nat (k := 11) (by omega) (by omega) (by omega)
  have s3 : bitw .or .i64 ((n15 + op * 2048 + n10 : Nat) : Int) (n9 : Int) = ((n15 + op * 2048 + n10 + n9 : Nat) : Int) := or_nat (k := 10) (by omega) (by omega) (by omega)
  have s4 : bitw .or .i64 ((n15 + op * 2048 + n10 + n9 : Nat) : Int) (n8 : Int) = ((n15 + op * 2048 + n10 + n9 + n8 : Nat) : Int) := or_nat (k := 9) (by omega) (by omega) (by omega)
  have s5 : bitw .or .i64 ((n15 + op * 2048 + n10 + n9 + n8 : Nat) : Int) (n7 : Int) = ((n15 + op * 2048 + n10 + n9 + n8 + n7 : Nat) : Int) := or_nat (k := 8) (by omega) (by omega) (by omega)
  have s6 : bitw .or .i64 ((n15 + op * 2048 + n10 + n9 + n8 + n7 : Nat) : Int) (n6 : Int) = ((n15 + op * 2048 + n10 + n9 + n8 + n7 + n6 : Nat) : Int) := or_nat (k := 7) (by omega) (by omega) (by omega)
  have s7 : bitw .or .i64 ((n15 + op * 2048 + n10 + n9 + n8 + n7 + n6 : Nat) : Int) (n5 : Int) = ((n15 + op * 2048 + n10 + n9 + n8 + n7 + n6 + n5 : Nat) : Int) := or_nat (k := 6) (by omega) (by omega) (by omega)
  have s8 : bitw .or .i64 ((n15 + op * 2048 + n10 + n9 + n8 + n7 + n6 + n5 : Nat) : Int) (n4 : Int) = ((n15 + op * 2048 + n10 + n9 + n8 + n7 + n6 + n5 + n4 : Nat) : Int) := or_nat (k := 5) (by omega) (by omega) (by omega)
  have s9 : bitw .or .i64 ((n15 + op * 2048 + n10 + n9 + n8 + n7 + n6 + n5 + n4 : Nat) : Int) (code : Int) = ((n15 + op * 2048 + n10 + n9 + n8 + n7 + n6 + n5 + n4 + code : Nat) : Int) := or_nat (k := 4) (by omega) (by omega) (by omega)
  rw [← hflg] at s9
  have hflb : flg m.h ≤ 65535 := by omega
  obtain ⟨H1, k1, e1⟩ := hP m.h.id.toNat Ha (by omega)
  rw [← eid] at k1
  obtain ⟨H2, k2, e2⟩ := hP (flg m.h) H1 hflb
  obtain ⟨H3, k3, e3⟩ := hP m.q.length H2 (by omega)
  obtain ⟨H4, k4, e4⟩ := hP m.an.length H3 (by omega)
  obtain ⟨H5, k5, e5⟩ := hP m.au.length H4 (by omega)
  obtain ⟨H6, k6, e6⟩ := hP m.ex.length H5 (by omega)
  have e16 := ((((e1.trans e2).trans e3).trans e4).trans e5).trans e6
  have hdl : (hdB m.h m.q.length m.an.length m.au.length m.ex.length).length = 12 := by simp [hdB, be16]
  obtain ⟨v7, H7, k7, rfl, w7, b7'⟩ := hT H.n (H.n + 1) ([], []) (hdB m.h m.q.length m.an.length m.au.length m.ex.length) H6 (hw0.ext e16) (by rw [hdl]; simp)
  have hlen : ∀ n, (be16 n).length = 2 := fun n => rfl
  have cap : ∀ l : List UInt8, l.length ≤ 100 → ∀ n, l.length + (be16 n).length ≤ 9223372036854775807 := fun l hl n => by simp [hlen]; omega
  have cap1 := cap (be16 m.h.id.toNat) (by simp [hlen]) (flg m.h)
  have cap2 := cap (be16 m.h.id.toNat ++ be16 (flg m.h)) (by simp [hlen]) m.q.length
  have cap3 := cap (be16 m.h.id.toNat ++ be16 (flg m.h) ++ be16 m.q.length) (by simp [hlen]) m.an.length
  have cap4 := cap (be16 m.h.id.toNat ++ be16 (flg m.h) ++ be16 m.q.length ++ be16 m.an.length) (by simp [hlen]) m.au.length
  have cap5 := cap (be16 m.h.id.toNat ++ be16 (flg m.h) ++ be16 m.q.length ++ be16 m.an.length ++ be16 m.au.length) (by simp [hlen]) m.ex.length
  have hdb : be16 m.h.id.toNat ++ be16 (flg m.h) ++ be16 m.q.length ++ be16 m.an.length ++ be16 m.au.length ++ be16 m.ex.length = hdB m.h m.q.length m.an.length m.au.length m.ex.length := rfl
  have eH7 : Ext H H7 := EncS.keep (H0 := H) (hw0.ext e16) (eA.trans e16) b7'
  rw [eop, ecode]
  simp -implicitDefEqProofs only [bU, reduceIte, Nat.reduceEqDiff, reduceCtorEq, implies_true, forall_const, eq_self, Nat.reduceAdd, Nat.reduceLT, bne_self_eq_false, bT, eq_self, true_implies, false_implies, forall_const, if_true, if_false, Int.reduceToNat, Nat.reduceSub, Int.reduceLE, bV, Nat.reduceAdd, Nat.reduceLT, Nat.reduceLeDiff, Nat.reduceLeDiff, lgAt, isRd, new_n, ← hHa, pv_faC, pv_faV, o1, o2, o3, o4, y1, y2, y3, y4, l1, l2, l3, l4, m1, m2, m3, m4, f15, f10, f9, f8, f7, f6, f5, f4, hm11, e11, s0, s1, s2, s3, s4, s5, s6, s7, s8, s9, Int.reduceToNat, k1, k2, k3, k4, k5, k6, cap1, cap2, cap3, cap4, cap5, hdb, k7]
  have hmv : ∀ l : List Lv, l = [⟨1, 0, 0, [mV m.h q a b c]⟩] → l = [⟨1, 0, 0, [.ag [.i .i64 m.h.id, .b m.h.qr, .i .i64 (op : Nat), .b m.h.aa, .b m.h.tc, .b m.h.rd, .b m.h.ra, .b m.h.z, .b m.h.ad, .b m.h.cd, .i .i64 (code : Nat), q, a, b, c]]⟩] := fun l hl => by rw [hl, mV, eop, ecode]
  have hvm : ∀ l : List Lv, l = [⟨1, 0, 0, [.ag [.i .i64 m.h.id, .b m.h.qr, .i .i64 (op : Nat), .b m.h.aa, .b m.h.tc, .b m.h.rd, .b m.h.ra, .b m.h.z, .b m.h.ad, .b m.h.cd, .i .i64 (code : Nat), q, a, b, c]]⟩] → l = [⟨1, 0, 0, [mV m.h q a b c]⟩] := fun l hl => by rw [hl, mV, eop, ecode]
  obtain ⟨S0, hS⟩ : ∃ S0 : EncSt, S0 = (hdB m.h m.q.length m.an.length m.au.length m.ex.length, []) := ⟨_, rfl⟩
  have hS0 : wrTxt ([], []) (hdB m.h m.q.length m.an.length m.au.length m.ex.length) = S0 := by rw [hS]; rfl
  have wf0 : wfS S0 := by rw [hS]; exact ⟨fun e he => (by cases he), (by simp)⟩
  have hl0 : S0.1.length = 12 := by rw [hS]; exact hdl
  rw [hS0] at w7
  refine exec_loop (fun n e M => ∃ (i : Nat) (H' : AH) (L : List Lv) (g : Nat), i ≤ m.q.length ∧ n = m.q.length - i ∧ look e 1 = .la 1 0 0 0 ∧ look e 4 = .pv (H.n + 1) 0 ∧ look e 84 = q ∧ look e 85 = .i .i64 m.q.length ∧ look e 86 = .i .i64 i ∧ M = ⟨L, g, H'⟩ ∧ keepL [1, 4, 84, 85, 86] L = [⟨1, 0, 0, [mV m.h q a b c]⟩] ∧ EncS H' H.n (H.n + 1) (wrQs S0 (m.q.take i)) ∧ Ext H H') ?_ (n := m.q.length)
    ⟨0, H7, _, _, by omega, by omega, rfl, rfl, rfl, rfl, rfl, rfl, hvm _ rfl, w7, eH7⟩
  rintro n e M ⟨i, H', L, g, hi, rfl, q1, q4, q84, q85, q86, rfl, hL, hw, he⟩
  have hL := hmv _ hL
  by_cases hlt : (i : Int) < m.q.length
  · have hil : i < m.q.length := by omega
    obtain ⟨b1, b2', b3, b4⟩ := Sx.at' (Sl.ext h.hq he) hil
    have hmem := List.getElem_mem hil
    have hwq := tot_mem' (w := w_Question) hmem
    simp only [w_Question] at hwq
    have hwf := wrQs_wf (m.q.take i) S0 (fun x hx => g2 x (List.mem_of_mem_take hx)) wf0
    have htk := tot_take w_Question m.q i
    have hlen' : (m.q.take i).length ≤ i := by simp; omega
    obtain ⟨qa, qb, qc⟩ := qOk_iff (g2 _ hmem)
    obtain ⟨qn1, qn2⟩ := nameL_lab qa
    obtain ⟨v, H8, k8, rfl, s8', w8⟩ := hN H.n (H.n + 1) _ m.q[i].n H' hw hwf.1.near qn2 (by omega)
    obtain ⟨H9, k9, e9⟩ := hP m.q[i].t.toNat H8 (by omega)
    obtain ⟨H10, k10, e10⟩ := hP m.q[i].c.toNat H9 (by omega)
    rw [Int.toNat_of_nonneg qb.1] at k9
    rw [Int.toNat_of_nonneg qc.1] at k10
    have hwn := (wrName_wf _ m.q[i].n _ (Nat.le_refl _) qn2 hwf.1).2.2
    obtain ⟨v11, H11, k11, rfl, s11, w11⟩ := hT H.n (H.n + 1) (wrName (wrQs S0 (m.q.take i)) m.q[i].n) (be16 m.q[i].t.toNat ++ be16 m.q[i].c.toNat) H10 (s8'.ext (e9.trans e10)) (by simp [be16]; omega)
    have capq := cap (be16 m.q[i].t.toNat) (by simp [hlen]) m.q[i].c.toNat
    have wall := (w8.trans (.of_ext (e9.trans e10) s8'.lt.1)).trans w11
    have w9 : IntKind.i64.wrap ((i : Int) + 1) = ((i + 1 : Nat) : Int) := by rw [w64 (by omega) (by omega)]; rfl
    simp only [show eQ.z = 3 from rfl, show eQ.v m.q[i] = AV.ag [.s m.q[i].n, .i .i64 m.q[i].t, .i .i64 m.q[i].c] from rfl] at b1 b3 b4
    simp -implicitDefEqProofs only [bU, reduceIte, Nat.reduceEqDiff, reduceCtorEq, implies_true, forall_const, eq_self, Nat.reduceAdd, Nat.reduceLT, bne_self_eq_false, bT, eq_self, true_implies, false_implies, forall_const, if_true, if_false, Int.reduceToNat, Nat.reduceSub, Int.reduceLE, bV, Nat.reduceAdd, Nat.reduceLT, Nat.reduceLeDiff, Nat.reduceLeDiff, lgAt, isRd, q1, q4, q84, q85, q86, hL, o1, o2, o3, o4, y1, y2, y3, y4, hlt, b1, b2', b3, b4, toNat_nat, k8, k9, k10, k11, capq, w9]
    exact ⟨m.q.length - (i + 1), by omega, i + 1, H11, _, _, by omega, rfl, rfl, rfl, hvm _ rfl, by rw [wrQs_step hil]; exact s11, EncS.keep (H0 := H) hw he wall⟩
  · have hie : i = m.q.length := by omega
    rw [hie, List.take_length] at hw
    have hwfq := wrQs_wf m.q S0 g2 wf0
    generalize hSQ : wrQs S0 m.q = SQ at *
    obtain ⟨ls, hls⟩ : ∃ ls : Nat → List Rr, ls = fun j => if j = 0 then m.an else if j = 1 then m.au else m.ex := ⟨_, rfl⟩
    have hfin : (wrM m) = wrL SQ ls 3 := by
      rw [hls]; simp only [wrL, wrM, ← hSQ, hS]; rfl
    have hok : ∀ j x, x ∈ ls j → recOkB x = true := fun j x hx => by
      rw [hls] at hx; simp only at hx
      split at hx
      · exact g3 x hx
      · split at hx
        · exact g4 x hx
        · exact g5 x hx
    have hlsN : ∀ j, (ls j).length ≤ 1048576 ∧ tot' w_RR (ls j) ≤ 1048576 := fun j => by
      rw [hls]; simp only
      split
      · omega
      · split <;> omega
    have hwL : ∀ j, j ≤ 3 → wfS (wrL SQ ls j) ∧ (wrL SQ ls j).1.length ≤ 3000000 + j * 15000000 := fun j => by
      induction j with
      | zero => intro _; exact ⟨hwfq.1, by simp only [wrL]; omega⟩
      | succ j ih =>
        intro hj
        obtain ⟨a1, a2⟩ := ih (by omega)
        obtain ⟨b1, b2⟩ := wrRs_wf (ls j) _ (hok j) a1
        have := hlsN j
        refine ⟨b1, ?_⟩
        simp only [wrL]
        omega
    simp -implicitDefEqProofs only [bU, reduceIte, Nat.reduceEqDiff, reduceCtorEq, implies_true, forall_const, eq_self, Nat.reduceAdd, Nat.reduceLT, bne_self_eq_false, bT, eq_self, true_implies, false_implies, forall_const, if_true, if_false, Int.reduceToNat, Nat.reduceSub, Int.reduceLE, bV, Nat.reduceAdd, Nat.reduceLT, Nat.reduceLeDiff, Nat.reduceLeDiff, q1, q4, q84, q85, q86, hL, o1, o2, o3, o4, y1, y2, y3, y4, hlt]
    rw [hB]
    simp only [c_impl_encoded, sAt]
    simp -implicitDefEqProofs only [bU, reduceIte, Nat.reduceEqDiff, reduceCtorEq, implies_true, forall_const, eq_self, Nat.reduceAdd, Nat.reduceLT, bne_self_eq_false, bT, eq_self, true_implies, false_implies, forall_const, if_true, if_false, Int.reduceToNat, Nat.reduceSub, Int.reduceLE, bV, Nat.reduceAdd, Nat.reduceLT, Nat.reduceLeDiff, Nat.reduceLeDiff, q1, q4, hL, o1, o2, o3, o4, y1, y2, y3, y4, fillEC, fillE, List.replicate, List.set, lenV, lenC]
    refine exec_loop (fun n e M => ∃ (j : Nat) (H' : AH) (L : List Lv) (g g' : Nat), j ≤ 3 ∧ n = 3 - j ∧ look e 4 = .pv (H.n + 1) 0 ∧ look e 110 = .ll 110 g' 1 3 ∧ look e 111 = .i .i64 3 ∧ look e 112 = .i .i64 j ∧ M = ⟨L, g, H'⟩ ∧ keepL [4, 110, 111, 112] L = [⟨110, g', 0, [a, b, c]⟩] ∧ EncS H' H.n (H.n + 1) (wrL SQ ls j) ∧ Ext H H') ?_ (n := 3)
      ⟨0, H', _, _, _, by omega, by omega, rfl, rfl, rfl, rfl, rfl, rfl, hw, he⟩
    clear hw he hi hie hlt q1 q4 q84 q85 q86
    rintro n e M ⟨j, H', L, g, g', hj, rfl, q4, q110, q111, q112, rfl, hL, hw, he⟩
    have w9 : IntKind.i64.wrap ((j : Int) + 1) = ((j + 1 : Nat) : Int) := by rw [w64 (by omega) (by omega)]; rfl
    have j0 : (0 : Int) ≤ j := by omega
    by_cases hj3 : (j : Int) < 3
    · have hjn : j < 3 := by omega
      have hia : iaC (j : Int) (.ll 110 g' 1 3) := ⟨j0, hj3⟩
      obtain ⟨ax, hax, hget⟩ : ∃ ax, (∀ H2, Ext H H2 → Sx H2 eR ax (ls j)) ∧ [a, b, c].getD j .u = ax := by
        obtain rfl | rfl | rfl : j = 0 ∨ j = 1 ∨ j = 2 := by omega
        · exact ⟨a, fun H2 h2 => by rw [hls]; exact Sl.ext h.ha h2, rfl⟩
        · exact ⟨b, fun H2 h2 => by rw [hls]; exact Sl.ext h.hb h2, rfl⟩
        · exact ⟨c, fun H2 h2 => by rw [hls]; exact Sl.ext h.hc h2, rfl⟩
      obtain ⟨hwa, hwb⟩ := hwL j hj
      have hnx := hlsN j
      have hxok := hok j
      have hlj : wrL SQ ls (j + 1) = wrRs (wrL SQ ls j) (ls j) := rfl
      generalize wrL SQ ls j = SJ at *
      generalize ls j = xs at *
      have hax1 := hax H' he
      obtain ⟨m1', m2'⟩ := hax1.len
      have za := hax1.one
      simp -implicitDefEqProofs only [bU, reduceIte, Nat.reduceEqDiff, reduceCtorEq, implies_true, forall_const, eq_self, Nat.reduceAdd, Nat.reduceLT, bne_self_eq_false, bT, eq_self, true_implies, false_implies, forall_const, if_true, if_false, Int.reduceToNat, Nat.reduceSub, Int.reduceLE, bV, Nat.reduceAdd, Nat.reduceLT, Nat.reduceLeDiff, Nat.reduceLeDiff, q4, q110, q111, q112, hj3, hL, slZ, hia, iaV, toNat_nat, hget, hjn, za, m1', m2']
      refine exec_loop (fun n e M => ∃ (i : Nat) (H' : AH) (L : List Lv) (g : Nat), i ≤ xs.length ∧ n = xs.length - i ∧ look e 4 = .pv (H.n + 1) 0 ∧ look e 110 = .ll 110 g' 1 3 ∧ look e 111 = .i .i64 3 ∧ look e 112 = .i .i64 j ∧ look e 116 = ax ∧ look e 117 = .i .i64 xs.length ∧ look e 118 = .i .i64 i ∧ M = ⟨L, g, H'⟩ ∧ keepL [4, 110, 111, 112, 116, 117, 118] L = [⟨110, g', 0, [a, b, c]⟩] ∧ EncS H' H.n (H.n + 1) (wrRs SJ (xs.take i)) ∧ Ext H H') ?_ (n := xs.length)
        ⟨0, H', _, _, by omega, by omega, rfl, rfl, rfl, rfl, rfl, rfl, rfl, rfl, rfl, hw, he⟩
      clear q4 q110 q111 q112 hL he hw hax1 m1' m2' H'
      rintro n e M ⟨i, H', L, g, hi, rfl, q4, q110, q111, q112, q116, q117, q118, rfl, hL, hw, he⟩
      by_cases hlt : (i : Int) < xs.length
      · have hil : i < xs.length := by omega
        obtain ⟨b1, b2', b3, b4⟩ := Sx.at' (hax H' he) hil
        have hmem := List.getElem_mem hil
        have hwq := tot_mem' (w := w_RR) hmem
        simp only [w_RR] at hwq
        have hwf := wrRs_wf (xs.take i) SJ (fun x hx => hxok x (List.mem_of_mem_take hx)) hwa
        have htk := tot_take w_RR xs i
        have hlen' : (xs.take i).length ≤ i := by simp; omega
        obtain ⟨v, H8, k8, rfl, s8', w8⟩ := hR H (H.n + 1) _ xs[i] H' hF he hw hwf.1 (hxok _ hmem) (by omega)
        have w8' : IntKind.i64.wrap ((i : Int) + 1) = ((i + 1 : Nat) : Int) := by
          rw [w64 (by omega) (by omega)]; rfl
        simp only [show eR.z = 5 from rfl, show eR.v xs[i] = AV.ag [.s xs[i].o, .i .i64 xs[i].t, .i .i64 xs[i].c, .i .i64 xs[i].ttl, .s xs[i].d] from rfl] at b1 b3 b4 k8
        simp -implicitDefEqProofs only [bU, reduceIte, Nat.reduceEqDiff, reduceCtorEq, implies_true, forall_const, eq_self, Nat.reduceAdd, Nat.reduceLT, bne_self_eq_false, bT, eq_self, true_implies, false_implies, forall_const, if_true, if_false, Int.reduceToNat, Nat.reduceSub, Int.reduceLE, bV, Nat.reduceAdd, Nat.reduceLT, Nat.reduceLeDiff, Nat.reduceLeDiff, q4, q110, q111, q112, q116, q117, q118, hlt, hL, b1, b2', b3, b4, toNat_nat, k8, w8']
        exact ⟨xs.length - (i + 1), by omega, i + 1, H8, _, _, by omega, rfl, rfl, rfl, rfl, by rw [wrRs_step hil]; exact s8', EncS.keep (H0 := H) hw he w8⟩
      · have hie : i = xs.length := by omega
        rw [hie, List.take_length, ← hlj] at hw
        simp -implicitDefEqProofs only [bU, reduceIte, Nat.reduceEqDiff, reduceCtorEq, implies_true, forall_const, eq_self, Nat.reduceAdd, Nat.reduceLT, bne_self_eq_false, bT, eq_self, true_implies, false_implies, forall_const, if_true, if_false, Int.reduceToNat, Nat.reduceSub, Int.reduceLE, bV, Nat.reduceAdd, Nat.reduceLT, Nat.reduceLeDiff, Nat.reduceLeDiff, q4, q110, q111, q112, q116, q117, q118, hlt, hL, w9]
        exact ⟨3 - (j + 1), by omega, j + 1, H', _, _, g', by omega, rfl, rfl, rfl, rfl, rfl, hw, he⟩
    · have hj3e : j = 3 := by omega
      subst hj3e
      rw [← hfin] at hw
      obtain ⟨⟨bv, mid, t1, t2, t3, t4, t5, t6, t7, t8, t9⟩, -⟩ := hw
      obtain ⟨c1, c2⟩ := t1.ld (off := 0) (by simp)
      have c2' := fun (L : List Lv) (g : Nat) => (c2 L g).trans (show _ = bv from rfl)
      have ob := t2.sl.out
      simp -implicitDefEqProofs only [bU, reduceIte, Nat.reduceEqDiff, reduceCtorEq, implies_true, forall_const, eq_self, Nat.reduceAdd, Nat.reduceLT, bne_self_eq_false, bT, eq_self, true_implies, false_implies, forall_const, if_true, if_false, Int.reduceToNat, Nat.reduceSub, Int.reduceLE, bV, Nat.reduceAdd, Nat.reduceLT, Nat.reduceLeDiff, Nat.reduceLeDiff, nc_pv, pv_faC, pv_faV, q4, q110, q111, q112, hL, hj3, c1, c2', ob, endK, rsC, rsV, resV]
      exact ⟨he, t2, t9⟩
end
end Go.Vm

/- Runs of records dropped from a list: both sides. -/
namespace Go.Vm
set_option linter.unusedVariables false
set_option linter.unusedSimpArgs false
def stripE (l : List Rr) (keep : Bool) : Nat → Nat
  | 0 => 0
  | k + 1 => if keep = true ∧ (l.getD k rr0).t = 41 then stripE l keep k else k + 1
def sameRun (x y : Rr) : Prop := x.o = y.o ∧ x.t = y.t ∧ x.c = y.c
instance (x y : Rr) : Decidable (sameRun x y) := by unfold sameRun; infer_instance
def runF (l : List Rr) (x : Rr) : Nat → Nat
  | 0 => 0
  | k + 1 => if sameRun (l.getD k rr0) x then runF l x k else k + 1
def drp (keep : Bool) (l : List Rr) : Option (List Rr) :=
  if stripE l keep l.length = 0 then none else some (l.take (runF l (l.getD (stripE l keep l.length - 1) rr0) (stripE l keep l.length - 1)) ++ l.drop (stripE l keep l.length))
theorem stripE_le (l : List Rr) (keep : Bool) : ∀ k, stripE l keep k ≤ k
  | 0 => Nat.le_refl _
  | k + 1 => by
    have := stripE_le l keep k
    simp only [stripE]
    split <;> omega
theorem runF_le (l : List Rr) (x : Rr) : ∀ k, runF l x k ≤ k
  | 0 => Nat.le_refl _
  | k + 1 => by
    have := runF_le l x k
    simp only [runF]
    split <;> omega
def DropPost (r : Option (List Rr)) (a : AV) (H : AH) (v : AV) (H' : AH) : Prop := Ext H H' ∧ match r with
  | none => v = .tp [a, .b false]
  | some ys => ∃ a', v = .tp [a', .b true] ∧ Mx H' eR a' ys ∧ Cl H' a' ∧ ∀ i, i ∈ idA a' → H.n ≤ i
def T_drop (C : Tab) (f : Nat) : Prop := ∀ (a : AV) (xs : List Rr) (keep : Bool) (H : AH), Sx H eR a xs → Cl H a → xs.length ≤ 1048576 → ∃ v H', C f [a, .b keep] H = some (v, H') ∧ DropPost (drp keep xs) a H v H'
def T_join (C : Tab) (f : Nat) : Prop := ∀ (a b : AV) (xs ys : List Rr) (H : AH), Mx H eR a xs → Cl H a → Sx H eR b ys → Dj b a → xs.length + ys.length ≤ 1099511627 → ∃ v H', C f [a, b] H = some (v, H') ∧ Mx H' eR v (xs ++ ys) ∧ Cl H' v ∧ Kp (idA a) H H' ∧ ∀ i, i ∈ idA v → i ∈ idA a ∨ H.n ≤ i
theorem lit_srcR {t g : Nat} {x : Rr} {L : List Lv} {H : AH} : srcV ⟨⟨t, g, 0, [.ag [.s x.o, .i .i64 x.t, .i .i64 x.c, .i .i64 x.ttl, .s x.d]]⟩ :: L, g + 1, H⟩ (.ll t g 5 1) = [eR.v x] ∧ srcC ⟨⟨t, g, 0, [.ag [.s x.o, .i .i64 x.t, .i .i64 x.c, .i .i64 x.ttl, .s x.d]]⟩ :: L, g + 1, H⟩ 5 (.ll t g 5 1) := by
  simp [srcV, srcC, Mem.getL, Mem.hasL, lookL, eR, Enc.v]
theorem Mx.new0 {α : Type} {E : Enc α} (H : AH) : Mx (H.new (.arr true 0 E.z [])) E (.sl H.n 0 0) [] ∧ Cl (H.new (.arr true 0 E.z [])) (.sl H.n 0 0) := by
  refine ⟨Mn.own (xs := []) (by simp) new_at, fun i hi rw st z xs he => ?_⟩
  simp only [idA, List.mem_singleton] at hi
  subst hi
  rw [new_at] at he
  cases he; decide
section
variable {C : Tab}
theorem r_join {a b : AV} {xs ys : List Rr} {H : AH} (ha : Mx H eR a xs) (hc : Cl H a) (hb : Sx H eR b ys) (hd : Dj b a) (hn : xs.length + ys.length ≤ 1099511627) :
    Runs C c_spec_l06Join [a, b] H fun v H' => Mx H' eR v (xs ++ ys) ∧ Cl H' v ∧ Kp (idA a) H H' ∧ ∀ i, i ∈ idA v → i ∈ idA a ∨ H.n ≤ i := by
  unfold Runs c_spec_l06Join
  obtain ⟨l1, l2⟩ := hb.len
  have ob := hb.out
  simp -implicitDefEqProofs only [bU, reduceIte, Nat.reduceEqDiff, reduceCtorEq, implies_true, forall_const, eq_self, Nat.reduceAdd, Nat.reduceLT, bne_self_eq_false, bT, eq_self, true_implies, false_implies, forall_const, if_true, if_false, Int.reduceToNat, Nat.reduceSub, Int.reduceLE]
  refine exec_loop (fun n e M => ∃ (i : Nat) (o : AV) (H' : AH) (L : List Lv) (g : Nat), i ≤ ys.length ∧ n = ys.length - i ∧ look e 0 = o ∧ look e 1 = b ∧ look e 5 = .i .i64 i ∧ M = ⟨L, g, H'⟩ ∧ Mx H' eR o (xs ++ ys.take i) ∧ Cl H' o ∧ Kp (idA a) H H' ∧ (∀ j, j ∈ idA o → j ∈ idA a ∨ H.n ≤ j)) ?_ (n := ys.length)
    ⟨0, a, H, _, _, by omega, by omega, rfl, rfl, rfl, rfl, by simpa using ha, hc, .refl _ _, fun j hj => .inl hj⟩
  rintro n e M ⟨i, o, H', L, g, hi, rfl, q0, q1, q5, rfl, hm, hcl, hk, hid⟩
  have hb' : Sx H' eR b ys := hk.sl hb hd
  have ho := (Mn.sl hm).out
  by_cases hlt : (i : Int) < ys.length
  · have hil : i < ys.length := by omega
    obtain ⟨b1, b2, b3, b4⟩ := Sx.at' hb' hil
    have w9 : IntKind.i64.wrap ((i : Int) + 1) = ((i + 1 : Nat) : Int) := by rw [w64 (by omega) (by omega)]; rfl
    obtain ⟨p1, o', H2, p2, p3, p4, p5, p6, p7, -, p9⟩ := Mn.ap (by' := 56) hm (lit_srcR (t := 17) (g := g) (x := ys[i]) (L := dropL (keepL [0, 1, 5] L) 17) (H := H')) (by simp; omega)
    simp only [show eR.z = 5 from rfl, show eR.v ys[i] = AV.ag [.s ys[i].o, .i .i64 ys[i].t, .i .i64 ys[i].c, .i .i64 ys[i].ttl, .s ys[i].d] from rfl] at b1 b3 b4 p1 p3
    simp -implicitDefEqProofs only [bU, reduceIte, Nat.reduceEqDiff, reduceCtorEq, implies_true, forall_const, eq_self, Nat.reduceAdd, Nat.reduceLT, bne_self_eq_false, bT, eq_self, true_implies, false_implies, forall_const, if_true, if_false, Int.reduceToNat, Nat.reduceSub, Int.reduceLE, bV, Nat.reduceAdd, Nat.reduceLT, Nat.reduceLeDiff, Nat.reduceLeDiff, q0, q1, q5, l1, l2, hlt, b1, b2, b3, b4, toNat_nat, fillEC, fillE, List.replicate, List.set]
    simp -implicitDefEqProofs only [bU, reduceIte, Nat.reduceEqDiff, reduceCtorEq, implies_true, forall_const, eq_self, Nat.reduceAdd, Nat.reduceLT, bne_self_eq_false, p1, p2, p3, w9]
    refine ⟨ys.length - (i + 1), by omega, i + 1, o', H2, _, _, by omega, rfl, rfl, rfl, rfl, ?_, p9 hcl, ⟨Nat.le_trans hk.n p5, fun j hj hja => (p6 j (Nat.lt_of_lt_of_le hj hk.n) fun hh => (hid j hh).elim hja fun h2 => by omega).trans (hk.at' j hj hja)⟩, fun j hj => ?_⟩
    · have e : ys.take (i + 1) = ys.take i ++ [ys[i]] := by rw [← List.take_append_getElem hil]
      rw [e, ← List.append_assoc]
      show Mn H2 eR.z o' _
      rw [List.map_append]; exact p4
    · rcases p7 j hj with h | h
      · exact hid j h
      · have := hk.n; exact .inr (by omega)
  · have hie : i = ys.length := by omega
    subst hie
    rw [List.take_length] at hm
    simp -implicitDefEqProofs only [bU, reduceIte, Nat.reduceEqDiff, reduceCtorEq, implies_true, forall_const, eq_self, Nat.reduceAdd, Nat.reduceLT, bne_self_eq_false, bT, eq_self, true_implies, false_implies, forall_const, if_true, if_false, Int.reduceToNat, Nat.reduceSub, Int.reduceLE, q0, q1, q5, l1, l2, hlt, ho, endK, rsC, rsV, resV]
    exact ⟨hm, hcl, hk, hid⟩
set_option maxHeartbeats 1000000 in
theorem r_dropI {a : AV} {xs : List Rr} {keep : Bool} {H : AH} (h : Sx H eR a xs) (hc : Cl H a) (hn : xs.length ≤ 1048576) : Runs C c_impl_dropRun [a, .b keep] H (DropPost (drp keep xs) a H) := by
  unfold Runs c_impl_dropRun
  obtain ⟨l1, l2⟩ := h.len
  have oa := h.out
  have fld : ∀ k, k < xs.length → slZ H 5 a ∧ iaC (k : Int) a ∧ faC (iaV k a) ∧ (∀ off, off < 5 → (∀ (L : List Lv) (g : Nat), ldC ⟨L, g, H⟩ none (faV off (iaV k a))) ∧ ∀ (L : List Lv) (g : Nat), ldX ⟨L, g, H⟩ none (faV off (iaV k a)) = (eR.fn (xs.getD k rr0)).getD off .u) := fun k hk => by
    obtain ⟨b1, b2, b3, -, -⟩ := Sx.fdn (z := 5) h rfl hk (off := 0) (by decide)
    have e : xs.getD k rr0 = xs[k] := by simp [List.getD, List.getElem?_eq_getElem hk]
    refine ⟨b1, b2, b3, fun off ho => ?_⟩
    obtain ⟨-, -, -, c4, c5⟩ := Sx.fdn (z := 5) h rfl hk (off := off) ho
    rw [e]; exact ⟨c4, c5⟩
  simp -implicitDefEqProofs only [bU, reduceIte, Nat.reduceEqDiff, reduceCtorEq, implies_true, forall_const, eq_self, Nat.reduceAdd, Nat.reduceLT, bne_self_eq_false, bT, eq_self, true_implies, false_implies, forall_const, if_true, if_false, Int.reduceToNat, Nat.reduceSub, Int.reduceLE, l1, l2]
  refine exec_loop (fun n e M => ∃ (g : Nat), n ≤ xs.length ∧ look e 0 = a ∧ look e 1 = .b keep ∧ look e 6 = .i .i64 n ∧ M = ⟨[], g, H⟩ ∧ stripE xs keep xs.length = stripE xs keep n) ?_ (n := xs.length)
    ⟨_, by omega, rfl, rfl, rfl, rfl, rfl⟩
  rintro n e M ⟨g, hnl, q0, q1, q6, rfl, hE⟩
  have after : ∀ e' g', look e' 0 = a → look e' 6 = .i .i64 n → stripE xs keep xs.length = n → exec C (sAt c_impl_dropRun.s [1, 1, 1]) e' ⟨[], g', H⟩ (endK [.t 4, .t 5] (DropPost (drp keep xs) a H)) := by
    intro e' g' r0 r6 hE'
    simp only [c_impl_dropRun, sAt]
    unfold drp
    rw [hE']
    by_cases hn0 : n = 0
    · have hn0' : ((n : Nat) : Int) = 0 := by omega
      rw [if_pos hn0]
      simp -implicitDefEqProofs only [bU, reduceIte, Nat.reduceEqDiff, reduceCtorEq, implies_true, forall_const, eq_self, Nat.reduceAdd, Nat.reduceLT, bne_self_eq_false, bT, eq_self, true_implies, false_implies, forall_const, if_true, if_false, Int.reduceToNat, Nat.reduceSub, Int.reduceLE, r0, r6, hn0', oa, endK, rsC, rsV, resV]
      exact ⟨.refl _, rfl⟩
    · obtain ⟨k, rfl⟩ : ∃ k, n = k + 1 := ⟨n - 1, by omega⟩
      rw [if_neg hn0, Nat.add_sub_cancel]
      have hn0' : ¬ ((k + 1 : Nat) : Int) = 0 := by omega
      have w1 : IntKind.i64.wrap (((k + 1 : Nat) : Int) - 1) = ((k : Nat) : Int) := by rw [w64 (by omega) (by omega)]; omega
      have hkl : k < xs.length := by omega
      have hx : xs[k] = xs.getD k rr0 := by simp [List.getD, List.getElem?_eq_getElem hkl]
      obtain ⟨b1, b2, b3, b4⟩ := Sx.at' h hkl
      rw [hx] at b4
      generalize hxg : xs.getD k rr0 = x at *
      simp only [show eR.z = 5 from rfl, show eR.v x = AV.ag [.s x.o, .i .i64 x.t, .i .i64 x.c, .i .i64 x.ttl, .s x.d] from rfl] at b1 b3 b4
      simp -implicitDefEqProofs only [bU, reduceIte, Nat.reduceEqDiff, reduceCtorEq, implies_true, forall_const, eq_self, Nat.reduceAdd, Nat.reduceLT, bne_self_eq_false, bT, eq_self, true_implies, false_implies, forall_const, if_true, if_false, Int.reduceToNat, Nat.reduceSub, Int.reduceLE, bV, Nat.reduceAdd, Nat.reduceLT, Nat.reduceLeDiff, Nat.reduceLeDiff, r0, r6, hn0', w1, b1, b2, b3, b4, toNat_nat]
      refine exec_loop (fun m e M => ∃ (L : List Lv) (g g2 : Nat), m ≤ k ∧ look e 0 = a ∧ look e 6 = .i .i64 ((k + 1 : Nat) : Int) ∧ look e 7 = .la 7 g2 0 0 ∧ look e 8 = .i .i64 m ∧ M = ⟨L, g, H⟩ ∧ keepL [0, 6, 7, 8] L = [⟨7, g2, 0, [eR.v x]⟩] ∧ runF xs x k = runF xs x m) ?_ (n := k)
        ⟨_, _, _, by omega, r0, r6, rfl, rfl, rfl, rfl, rfl⟩
      clear b1 b2 b3 b4 r0 r6 hn0'
      rintro m e M ⟨L, g, g2, hm, q0, q6, q7, q8, rfl, hL, hR⟩
      simp only [show eR.v x = AV.ag [.s x.o, .i .i64 x.t, .i .i64 x.c, .i .i64 x.ttl, .s x.d] from rfl] at hL
      have fin : runF xs x k = m → ∀ e2 L2 g2, look e2 0 = a → look e2 6 = .i .i64 ((k + 1 : Nat) : Int) → look e2 8 = .i .i64 m → exec C (sAt c_impl_dropRun.s [1, 1, 1, 1, 1, 1, 1]) e2 ⟨L2, g2, H⟩ (endK [.t 4, .t 5] (DropPost (some (xs.take (runF xs x k) ++ xs.drop (k + 1))) a H)) := by
        intro hRm e2 L2 g3 t0 t6 t8
        simp only [c_impl_dropRun, sAt]
        rw [hRm]
        have m0 : (0 : Int) ≤ m := by omega
        have m1 : (m : Int) ≤ (xs.length : Int) := by omega
        have k0 : (0 : Int) ≤ ((k + 1 : Nat) : Int) := by omega
        have k1 : ((k + 1 : Nat) : Int) ≤ (xs.length : Int) := by omega
        obtain ⟨n1, n2⟩ := Mx.new0 (E := eR) H
        simp only [show eR.z = 5 from rfl] at n1 n2
        have e1 := Ext.new H (.arr true 0 5 [])
        have h1 : Sx (H.new (.arr true 0 5 [])) eR a xs := Sl.ext h e1
        have hc1 : Cl (H.new (.arr true 0 5 [])) a := hc.fr fun i hi => e1.at' i (h.lt i hi)
        obtain ⟨s1, s2, s3⟩ := Sl.sub h1 hc1 (lo := 0) (hi := m) (Int.le_refl _) m0 (by simpa using m1)
        rw [Int.toNat_natCast, show (0 : Int).toNat = 0 from rfl] at s3
        simp only [List.drop_zero, Nat.sub_zero] at s3
        obtain ⟨p1, o1, H2, p2, p3, p4, p5, p6, p7, -, p9⟩ := Mn.ap (by' := 56) (ys := (xs.take m).map eR.v) (y := slV 0 m a) n1 (by rw [List.map_take]; exact s3.src L2 g3) (by simp; omega)
        have hnot : ∀ i, i ∈ idA a → ¬ i ∈ idA (AV.sl H.n 0 0) := fun i hi hh => by
          have := h.lt i hi
          simp only [idA, List.mem_singleton] at hh; omega
        have h2 : Sx H2 eR a xs := Sl.fr h1 p5 fun i hi => p6 i (h1.lt i hi) (hnot i hi)
        have hc2 : Cl H2 a := hc1.fr fun i hi => p6 i (h1.lt i hi) (hnot i hi)
        obtain ⟨t1, t2, t3⟩ := Sl.sub h2 hc2 (lo := ((k + 1 : Nat) : Int)) (hi := xs.length) k0 k1 (by simp)
        rw [Int.toNat_natCast, Int.toNat_natCast] at t3
        have e3 : ((xs.map eR.v).drop (k + 1)).take (xs.length - (k + 1)) = (xs.drop (k + 1)).map eR.v := by
          rw [List.take_of_length_le (by simp), List.map_drop]
        rw [e3] at t3
        simp only [show eR.z = 5 from rfl] at s1 s2 s3 t1 t2 t3 p1 p3 p4
        have p4' : Mn H2 5 o1 ((xs.take m).map eR.v) := p4
        obtain ⟨u1, o2, H3, u2, u3, u4, u5, u6, u7, -, u9⟩ := Mn.ap (by' := 56) p4' (t3.src L2 g3) (by simp; omega)
        have oo := u4.sl.out
        obtain ⟨x1, x2⟩ := h1.len
        obtain ⟨x3, x4⟩ := h2.len
        have zz : ∀ (H' : AH) , True := fun _ => trivial
        have ss1 := (Sl.sub h hc (lo := 0) (hi := m) (Int.le_refl _) m0 (by simpa using m1))
        have ss2 := (Sl.sub h hc (lo := ((k + 1 : Nat) : Int)) (hi := xs.length) k0 k1 (by simp))
        have ss3 := (Sl.sub h1 hc1 (lo := ((k + 1 : Nat) : Int)) (hi := xs.length) k0 k1 (by simp))
        have hz : slZ H 5 a := ss1.2.1
        simp -implicitDefEqProofs only [bU, reduceIte, Nat.reduceEqDiff, reduceCtorEq, implies_true, forall_const, eq_self, Nat.reduceAdd, Nat.reduceLT, bne_self_eq_false, bT, eq_self, true_implies, false_implies, forall_const, if_true, if_false, Int.reduceToNat, Nat.reduceSub, Int.reduceLE, bV, Nat.reduceAdd, Nat.reduceLT, Nat.reduceLeDiff, Nat.reduceLeDiff, lgAt, isRd, hz, t0, t6, t8, l1, l2, x1, x2, x3, x4, s1, s2, t1, t2, ss1.1, ss1.2.1, ss2.1, ss2.2.1, ss3.1, ss3.2.1, toNat_nat, Int.reduceToNat, p1, p2, p3, u1, u2, u3, oo, endK, rsC, rsV, resV]
        refine ⟨⟨Nat.le_trans e1.n (Nat.le_trans p5 u5), fun i hi => ?_⟩, o2, rfl, ?_, u9 (p9 n2), fun i hi => ?_⟩
        · have hne : ¬ i ∈ idA (AV.sl H.n 0 0) := fun hh => by simp only [idA, List.mem_singleton] at hh; omega
          have hne1 : ¬ i ∈ idA o1 := fun hh => by
            rcases p7 i hh with h | h
            · exact hne h
            · have := e1.n; omega
          rw [u6 i (by have := e1.n; omega) hne1, p6 i (by have := e1.n; omega) hne, e1.at' i hi]
        · show Mn H3 5 o2 _
          rw [List.map_append]; exact u4
        · have := e1.n
          rcases u7 i hi with h | h
          · rcases p7 i h with h | h
            · simp only [idA, List.mem_singleton] at h; omega
            · omega
          · omega
      have stop : runF xs x k = m → ∀ e2 L2 g2, look e2 0 = a → look e2 6 = .i .i64 ((k + 1 : Nat) : Int) → look e2 8 = .i .i64 m → exec C (sAt c_impl_dropRun.s [1, 1, 1, 1, 1, 1, 1]) e2 ⟨L2, g2, H⟩ (endK [.t 4, .t 5] (DropPost (some (xs.take (runF xs x k) ++ xs.drop (k + 1))) a H)) := fin
      clear fin
      obtain ⟨F, hFd⟩ : ∃ F, F = sAt c_impl_dropRun.s [1, 1, 1, 1, 1, 1, 1] := ⟨_, rfl⟩
      rw [← hFd] at stop
      simp only [c_impl_dropRun, sAt] at hFd
      rw [← hFd]
      clear hFd
      cases m with
      | zero =>
        have z0 : ¬ (0 : Int) < ((0 : Nat) : Int) := by decide
        simp -implicitDefEqProofs only [bU, reduceIte, Nat.reduceEqDiff, reduceCtorEq, implies_true, forall_const, eq_self, Nat.reduceAdd, Nat.reduceLT, bne_self_eq_false, bT, eq_self, true_implies, false_implies, forall_const, if_true, if_false, Int.reduceToNat, Nat.reduceSub, Int.reduceLE, bV, Nat.reduceAdd, Nat.reduceLT, Nat.reduceLeDiff, Nat.reduceLeDiff, q0, q6, q7, q8, hL, z0]
        exact stop (hR.trans rfl) _ _ _ rfl rfl rfl
      | succ j =>
        have hjl : j < xs.length := by omega
        have z0 : (0 : Int) < ((j + 1 : Nat) : Int) := by omega
        have w2 : IntKind.i64.wrap (((j + 1 : Nat) : Int) - 1) = ((j : Nat) : Int) := by rw [w64 (by omega) (by omega)]; omega
        obtain ⟨f1, f2, f3, f4⟩ := fld j hjl
        obtain ⟨c01, c02⟩ := f4 0 (by decide)
        obtain ⟨c11, c12⟩ := f4 1 (by decide)
        obtain ⟨c21, c22⟩ := f4 2 (by decide)
        simp only [runF] at hR
        generalize xs.getD j rr0 = y at *
        have c02' := fun (L : List Lv) (g : Nat) => (c02 L g).trans (show _ = AV.s y.o from rfl)
        have c12' := fun (L : List Lv) (g : Nat) => (c12 L g).trans (show _ = AV.i .i64 y.t from rfl)
        have c22' := fun (L : List Lv) (g : Nat) => (c22 L g).trans (show _ = AV.i .i64 y.c from rfl)
        by_cases e1 : y.o = x.o
        · have e1' := eq_true e1
          by_cases e2 : y.t = x.t
          · have e2' := eq_true e2
            by_cases e3 : y.c = x.c
            · have e3' := eq_true e3
              rw [if_pos ⟨e1, e2, e3⟩] at hR
              simp -implicitDefEqProofs only [bU, reduceIte, Nat.reduceEqDiff, reduceCtorEq, implies_true, forall_const, eq_self, Nat.reduceAdd, Nat.reduceLT, bne_self_eq_false, bT, eq_self, true_implies, false_implies, forall_const, if_true, if_false, Int.reduceToNat, Nat.reduceSub, Int.reduceLE, bV, Nat.reduceAdd, Nat.reduceLT, Nat.reduceLeDiff, Nat.reduceLeDiff, q0, q6, q7, q8, hL, z0, w2, f1, f2, f3, c01, c02', c11, c12', c21, c22', e1', e2', e3', toNat_nat]
              exact ⟨j, by omega, _, _, g2, by omega, rfl, rfl, rfl, rfl, hR⟩
            · rw [if_neg fun hh => e3 hh.2.2] at hR
              simp -implicitDefEqProofs only [bU, reduceIte, Nat.reduceEqDiff, reduceCtorEq, implies_true, forall_const, eq_self, Nat.reduceAdd, Nat.reduceLT, bne_self_eq_false, bT, eq_self, true_implies, false_implies, forall_const, if_true, if_false, Int.reduceToNat, Nat.reduceSub, Int.reduceLE, bV, Nat.reduceAdd, Nat.reduceLT, Nat.reduceLeDiff, Nat.reduceLeDiff, q0, q6, q7, q8, hL, z0, w2, f1, f2, f3, c01, c02', c11, c12', c21, c22', e1', e2', e3, toNat_nat]
              exact stop hR _ _ _ rfl rfl rfl
          · rw [if_neg fun hh => e2 hh.2.1] at hR
            simp -implicitDefEqProofs only [bU, reduceIte, Nat.reduceEqDiff, reduceCtorEq, implies_true, forall_const, eq_self, Nat.reduceAdd, Nat.reduceLT, bne_self_eq_false, bT, eq_self, true_implies, false_implies, forall_const, if_true, if_false, Int.reduceToNat, Nat.reduceSub, Int.reduceLE, bV, Nat.reduceAdd, Nat.reduceLT, Nat.reduceLeDiff, Nat.reduceLeDiff, q0, q6, q7, q8, hL, z0, w2, f1, f2, f3, c01, c02', c11, c12', c21, c22', e1', e2, toNat_nat]
            exact stop hR _ _ _ rfl rfl rfl
        · rw [if_neg fun hh => e1 hh.1] at hR
          simp -implicitDefEqProofs only [bU, reduceIte, Nat.reduceEqDiff, reduceCtorEq, implies_true, forall_const, eq_self, Nat.reduceAdd, Nat.reduceLT, bne_self_eq_false, bT, eq_self, true_implies, false_implies, forall_const, if_true, if_false, Int.reduceToNat, Nat.reduceSub, Int.reduceLE, bV, Nat.reduceAdd, Nat.reduceLT, Nat.reduceLeDiff, Nat.reduceLeDiff, q0, q6, q7, q8, hL, z0, w2, f1, f2, f3, c01, c02', c11, c12', c21, c22', e1, toNat_nat]
          exact stop hR _ _ _ rfl rfl rfl
  obtain ⟨F, hFd⟩ : ∃ F, F = sAt c_impl_dropRun.s [1, 1, 1] := ⟨_, rfl⟩
  rw [← hFd] at after
  simp only [c_impl_dropRun, sAt] at hFd
  rw [← hFd]
  clear hFd
  cases n with
  | zero =>
    have z0 : ¬ (0 : Int) < ((0 : Nat) : Int) := by decide
    simp -implicitDefEqProofs only [bU, reduceIte, Nat.reduceEqDiff, reduceCtorEq, implies_true, forall_const, eq_self, Nat.reduceAdd, Nat.reduceLT, bne_self_eq_false, bT, eq_self, true_implies, false_implies, forall_const, if_true, if_false, Int.reduceToNat, Nat.reduceSub, Int.reduceLE, bV, Nat.reduceAdd, Nat.reduceLT, Nat.reduceLeDiff, Nat.reduceLeDiff, q0, q1, q6, z0]
    exact after _ _ rfl rfl hE
  | succ j =>
    have hjl : j < xs.length := by omega
    have z0 : (0 : Int) < ((j + 1 : Nat) : Int) := by omega
    have w2 : IntKind.i64.wrap (((j + 1 : Nat) : Int) - 1) = ((j : Nat) : Int) := by rw [w64 (by omega) (by omega)]; omega
    obtain ⟨f1, f2, f3, f4⟩ := fld j hjl
    obtain ⟨c11, c12⟩ := f4 1 (by decide)
    simp only [stripE] at hE
    generalize xs.getD j rr0 = y at *
    have c12' := fun (L : List Lv) (g : Nat) => (c12 L g).trans (show _ = AV.i .i64 y.t from rfl)
    cases keep with
    | false =>
      rw [if_neg (by simp)] at hE
      simp -implicitDefEqProofs only [bU, reduceIte, Nat.reduceEqDiff, reduceCtorEq, implies_true, forall_const, eq_self, Nat.reduceAdd, Nat.reduceLT, bne_self_eq_false, bT, eq_self, true_implies, false_implies, forall_const, if_true, if_false, Int.reduceToNat, Nat.reduceSub, Int.reduceLE, bV, Nat.reduceAdd, Nat.reduceLT, Nat.reduceLeDiff, Nat.reduceLeDiff, q0, q1, q6, z0]
      exact after _ _ rfl rfl hE
    | true =>
      by_cases e1 : y.t = 41
      · have e1' := eq_true e1
        rw [if_pos ⟨rfl, e1⟩] at hE
        simp -implicitDefEqProofs only [bU, reduceIte, Nat.reduceEqDiff, reduceCtorEq, implies_true, forall_const, eq_self, Nat.reduceAdd, Nat.reduceLT, bne_self_eq_false, bT, eq_self, true_implies, false_implies, forall_const, if_true, if_false, Int.reduceToNat, Nat.reduceSub, Int.reduceLE, bV, Nat.reduceAdd, Nat.reduceLT, Nat.reduceLeDiff, Nat.reduceLeDiff, q0, q1, q6, z0, w2, f1, f2, f3, c11, c12', e1', toNat_nat]
        exact ⟨j, by omega, _, by omega, rfl, rfl, hE⟩
      · rw [if_neg fun hh => e1 hh.2] at hE
        simp -implicitDefEqProofs only [bU, reduceIte, Nat.reduceEqDiff, reduceCtorEq, implies_true, forall_const, eq_self, Nat.reduceAdd, Nat.reduceLT, bne_self_eq_false, bT, eq_self, true_implies, false_implies, forall_const, if_true, if_false, Int.reduceToNat, Nat.reduceSub, Int.reduceLE, bV, Nat.reduceAdd, Nat.reduceLT, Nat.reduceLeDiff, Nat.reduceLeDiff, q0, q1, q6, z0, w2, f1, f2, f3, c11, c12', e1, toNat_nat]
        exact after _ _ rfl rfl hE
end
end Go.Vm

/- Runs of records dropped from a list: the specification's side. -/
namespace Go.Vm
set_option linter.unusedVariables false
set_option linter.unusedSimpArgs false
section
variable {C : Tab}
set_option maxHeartbeats 1000000 in
theorem r_dropS {a : AV} {xs : List Rr} {keep : Bool} {H : AH} (hJ : T_join C n_spec_l06Join) (h : Sx H eR a xs) (hc : Cl H a) (hn : xs.length ≤ 1048576) : Runs C c_spec_l13Drop [a, .b keep] H (DropPost (drp keep xs) a H) := by
  unfold Runs c_spec_l13Drop
  obtain ⟨l1, l2⟩ := h.len
  have oa := h.out
  have fld : ∀ k, k < xs.length → slZ H 5 a ∧ iaC (k : Int) a ∧ faC (iaV k a) ∧ (∀ off, off < 5 → (∀ (L : List Lv) (g : Nat), ldC ⟨L, g, H⟩ none (faV off (iaV k a))) ∧ ∀ (L : List Lv) (g : Nat), ldX ⟨L, g, H⟩ none (faV off (iaV k a)) = (eR.fn (xs.getD k rr0)).getD off .u) := fun k hk => by
    obtain ⟨b1, b2, b3, -, -⟩ := Sx.fdn (z := 5) h rfl hk (off := 0) (by decide)
    have e : xs.getD k rr0 = xs[k] := by simp [List.getD, List.getElem?_eq_getElem hk]
    refine ⟨b1, b2, b3, fun off ho => ?_⟩
    obtain ⟨-, -, -, c4, c5⟩ := Sx.fdn (z := 5) h rfl hk (off := off) ho
    rw [e]; exact ⟨c4, c5⟩
  simp -implicitDefEqProofs only [bU, reduceIte, Nat.reduceEqDiff, reduceCtorEq, implies_true, forall_const, eq_self, Nat.reduceAdd, Nat.reduceLT, bne_self_eq_false, bT, eq_self, true_implies, false_implies, forall_const, if_true, if_false, Int.reduceToNat, Nat.reduceSub, Int.reduceLE, l1, l2]
  refine exec_loop (fun n e M => ∃ (g : Nat), n ≤ xs.length ∧ look e 0 = a ∧ look e 1 = .b keep ∧ look e 6 = .i .i64 n ∧ M = ⟨[], g, H⟩ ∧ stripE xs keep xs.length = stripE xs keep n) ?_ (n := xs.length)
    ⟨_, by omega, rfl, rfl, rfl, rfl, rfl⟩
  rintro n e M ⟨g, hnl, q0, q1, q6, rfl, hE⟩
  have after : ∀ e' g', look e' 0 = a → look e' 6 = .i .i64 n → stripE xs keep xs.length = n → exec C (sAt c_spec_l13Drop.s [1, 1, 1]) e' ⟨[], g', H⟩ (endK [.t 4, .t 5] (DropPost (drp keep xs) a H)) := by
    intro e' g' r0 r6 hE'
    simp only [c_spec_l13Drop, sAt]
    unfold drp
    rw [hE']
    by_cases hn0 : n = 0
    · have hn0' : ((n : Nat) : Int) = 0 := by omega
      rw [if_pos hn0]
      simp -implicitDefEqProofs only [bU, reduceIte, Nat.reduceEqDiff, reduceCtorEq, implies_true, forall_const, eq_self, Nat.reduceAdd, Nat.reduceLT, bne_self_eq_false, bT, eq_self, true_implies, false_implies, forall_const, if_true, if_false, Int.reduceToNat, Nat.reduceSub, Int.reduceLE, r0, r6, hn0', oa, endK, rsC, rsV, resV]
      exact ⟨.refl _, rfl⟩
    · obtain ⟨k, rfl⟩ : ∃ k, n = k + 1 := ⟨n - 1, by omega⟩
      rw [if_neg hn0, Nat.add_sub_cancel]
      have hn0' : ¬ ((k + 1 : Nat) : Int) = 0 := by omega
      have w1 : IntKind.i64.wrap (((k + 1 : Nat) : Int) - 1) = ((k : Nat) : Int) := by rw [w64 (by omega) (by omega)]; omega
      have hkl : k < xs.length := by omega
      obtain ⟨g1, g2, g3, g4⟩ := fld k hkl
      obtain ⟨d01, d02⟩ := g4 0 (by decide)
      obtain ⟨d11, d12⟩ := g4 1 (by decide)
      obtain ⟨d21, d22⟩ := g4 2 (by decide)
      generalize hxg : xs.getD k rr0 = x at *
      have d02' := fun (L : List Lv) (g : Nat) => (d02 L g).trans (show _ = AV.s x.o from rfl)
      have d12' := fun (L : List Lv) (g : Nat) => (d12 L g).trans (show _ = AV.i .i64 x.t from rfl)
      have d22' := fun (L : List Lv) (g : Nat) => (d22 L g).trans (show _ = AV.i .i64 x.c from rfl)
      simp -implicitDefEqProofs only [bU, reduceIte, Nat.reduceEqDiff, reduceCtorEq, implies_true, forall_const, eq_self, Nat.reduceAdd, Nat.reduceLT, bne_self_eq_false, bT, eq_self, true_implies, false_implies, forall_const, if_true, if_false, Int.reduceToNat, Nat.reduceSub, Int.reduceLE, bV, Nat.reduceAdd, Nat.reduceLT, Nat.reduceLeDiff, Nat.reduceLeDiff, r0, r6, hn0', w1, toNat_nat]
      refine exec_loop (fun m e M => ∃ (g : Nat), m ≤ k ∧ look e 0 = a ∧ look e 6 = .i .i64 ((k + 1 : Nat) : Int) ∧ look e 7 = .i .i64 m ∧ M = ⟨[], g, H⟩ ∧ runF xs x k = runF xs x m) ?_ (n := k)
        ⟨_, by omega, r0, r6, rfl, rfl, rfl⟩
      clear r0 r6 hn0'
      rintro m e M ⟨g, hm, q0, q6, q7, rfl, hR⟩
      have fin : runF xs x k = m → ∀ e2 L2 g2, look e2 0 = a → look e2 6 = .i .i64 ((k + 1 : Nat) : Int) → look e2 7 = .i .i64 m → exec C (sAt c_spec_l13Drop.s [1, 1, 1, 1, 1, 1]) e2 ⟨L2, g2, H⟩ (endK [.t 4, .t 5] (DropPost (some (xs.take (runF xs x k) ++ xs.drop (k + 1))) a H)) := by
        intro hRm e2 L2 g3 t0 t6 t8
        simp only [c_spec_l13Drop, sAt]
        rw [hRm]
        have m0 : (0 : Int) ≤ m := by omega
        have m1 : (m : Int) ≤ (xs.length : Int) := by omega
        have k0 : (0 : Int) ≤ ((k + 1 : Nat) : Int) := by omega
        have k1 : ((k + 1 : Nat) : Int) ≤ (xs.length : Int) := by omega
        obtain ⟨n1, n2⟩ := Mx.new0 (E := eR) H
        simp only [show eR.z = 5 from rfl] at n1 n2
        have e1 := Ext.new H (.arr true 0 5 [])
        have h1 : Sx (H.new (.arr true 0 5 [])) eR a xs := Sl.ext h e1
        have hc1 : Cl (H.new (.arr true 0 5 [])) a := hc.fr fun i hi => e1.at' i (h.lt i hi)
        obtain ⟨s1, s2, s3⟩ := Sl.sub h1 hc1 (lo := 0) (hi := m) (Int.le_refl _) m0 (by simpa using m1)
        rw [Int.toNat_natCast, show (0 : Int).toNat = 0 from rfl] at s3
        simp only [List.drop_zero, Nat.sub_zero] at s3
        have hnot : ∀ i, i ∈ idA a → ¬ i ∈ idA (AV.sl H.n 0 0) := fun i hi hh => by
          have := h.lt i hi
          simp only [idA, List.mem_singleton] at hh; omega
        have s3' : Sx (H.new (.arr true 0 5 [])) eR (slV 0 m a) (xs.take m) := by
          show Sl _ 5 _ _
          rw [List.map_take]; exact s3
        obtain ⟨o1, H2, u1, u2, u3, u4, u5⟩ := hJ (.sl H.n 0 0) (slV 0 m a) [] (xs.take m) (H.new (.arr true 0 5 [])) n1 n2 s3' (fun i hi hh => by rw [idA_slV] at hi; exact hnot i hi hh) (by simp; omega)
        have h2 : Sx H2 eR a xs := u4.sl h1 hnot
        have hc2 : Cl H2 a := hc1.fr fun i hi => u4.at' i (h1.lt i hi) (hnot i hi)
        obtain ⟨t1, t2, t3⟩ := Sl.sub h2 hc2 (lo := ((k + 1 : Nat) : Int)) (hi := xs.length) k0 k1 (by simp)
        rw [Int.toNat_natCast, Int.toNat_natCast] at t3
        have e3 : ((xs.map eR.v).drop (k + 1)).take (xs.length - (k + 1)) = (xs.drop (k + 1)).map eR.v := by
          rw [List.take_of_length_le (by simp), List.map_drop]
        rw [e3] at t3
        have hd2 : Dj (slV (k + 1) xs.length a) o1 := fun i hi hh => by
          rw [idA_slV] at hi
          have := h.lt i hi
          rcases u5 i hh with h | h
          · exact hnot i hi h
          · have := e1.n; omega
        obtain ⟨o2, H3, v1, v2, v3, v4, v5⟩ := hJ o1 (slV (k + 1) xs.length a) ([] ++ xs.take m) (xs.drop (k + 1)) H2 u2 u3 t3 hd2 (by simp; omega)
        simp only [show eR.z = 5 from rfl] at s1 s2 s3 t1 t2 t3
        have oo := (Mn.sl v2).out
        have oo1 := (Mn.sl u2).out
        obtain ⟨x1, x2⟩ := h1.len
        obtain ⟨x3, x4⟩ := h2.len
        have ss1 := (Sl.sub h hc (lo := 0) (hi := m) (Int.le_refl _) m0 (by simpa using m1))
        have ss2 := (Sl.sub h hc (lo := ((k + 1 : Nat) : Int)) (hi := xs.length) k0 k1 (by simp))
        have ss3 := (Sl.sub h1 hc1 (lo := ((k + 1 : Nat) : Int)) (hi := xs.length) k0 k1 (by simp))
        have hz : slZ H 5 a := ss1.2.1
        have os1 := ss1.2.2.out
        have os2 := t3.out
        rw [Int.toNat_natCast, show (0 : Int).toNat = 0 from rfl] at os1
        simp -implicitDefEqProofs only [bU, reduceIte, Nat.reduceEqDiff, reduceCtorEq, implies_true, forall_const, eq_self, Nat.reduceAdd, Nat.reduceLT, bne_self_eq_false, bT, eq_self, true_implies, false_implies, forall_const, if_true, if_false, Int.reduceToNat, Nat.reduceSub, Int.reduceLE, bV, Nat.reduceAdd, Nat.reduceLT, Nat.reduceLeDiff, Nat.reduceLeDiff, lgAt, isRd, hz, t0, t6, t8, l1, l2, x1, x2, x3, x4, s1, s2, t1, t2, ss1.1, ss1.2.1, ss2.1, ss2.2.1, ss3.1, ss3.2.1, toNat_nat, Int.reduceToNat, os1, os2, u1, v1, oo, oo1, endK, rsC, rsV, resV]
        refine ⟨⟨Nat.le_trans e1.n (Nat.le_trans u4.n v4.n), fun i hi => ?_⟩, o2, rfl, ?_, v3, fun i hi => ?_⟩
        · have hne : ¬ i ∈ idA (AV.sl H.n 0 0) := fun hh => by simp only [idA, List.mem_singleton] at hh; omega
          have hne1 : ¬ i ∈ idA o1 := fun hh => by
            rcases u5 i hh with h | h
            · exact hne h
            · have := e1.n; omega
          rw [v4.at' i (by have := e1.n; have := u4.n; omega) hne1, u4.at' i (by have := e1.n; omega) hne, e1.at' i hi]
        · rw [List.nil_append] at v2; exact v2
        · have := e1.n
          rcases v5 i hi with h | h
          · rcases u5 i h with h | h
            · simp only [idA, List.mem_singleton] at h; omega
            · omega
          · have := u4.n; omega
      have stop : runF xs x k = m → ∀ e2 L2 g2, look e2 0 = a → look e2 6 = .i .i64 ((k + 1 : Nat) : Int) → look e2 7 = .i .i64 m → exec C (sAt c_spec_l13Drop.s [1, 1, 1, 1, 1, 1]) e2 ⟨L2, g2, H⟩ (endK [.t 4, .t 5] (DropPost (some (xs.take (runF xs x k) ++ xs.drop (k + 1))) a H)) := fin
      clear fin
      obtain ⟨F, hFd⟩ : ∃ F, F = sAt c_spec_l13Drop.s [1, 1, 1, 1, 1, 1] := ⟨_, rfl⟩
      rw [← hFd] at stop
      simp only [c_spec_l13Drop, sAt] at hFd
      rw [← hFd]
      clear hFd
      cases m with
      | zero =>
        have z0 : ¬ (0 : Int) < ((0 : Nat) : Int) := by decide
        simp -implicitDefEqProofs only [bU, reduceIte, Nat.reduceEqDiff, reduceCtorEq, implies_true, forall_const, eq_self, Nat.reduceAdd, Nat.reduceLT, bne_self_eq_false, bT, eq_self, true_implies, false_implies, forall_const, if_true, if_false, Int.reduceToNat, Nat.reduceSub, Int.reduceLE, bV, Nat.reduceAdd, Nat.reduceLT, Nat.reduceLeDiff, Nat.reduceLeDiff, q0, q6, q7, z0]
        exact stop (hR.trans rfl) _ _ _ rfl rfl rfl
      | succ j =>
        have hjl : j < xs.length := by omega
        have z0 : (0 : Int) < ((j + 1 : Nat) : Int) := by omega
        have w2 : IntKind.i64.wrap (((j + 1 : Nat) : Int) - 1) = ((j : Nat) : Int) := by rw [w64 (by omega) (by omega)]; omega
        obtain ⟨f1, f2, f3, f4⟩ := fld j hjl
        obtain ⟨c01, c02⟩ := f4 0 (by decide)
        obtain ⟨c11, c12⟩ := f4 1 (by decide)
        obtain ⟨c21, c22⟩ := f4 2 (by decide)
        simp only [runF] at hR
        generalize xs.getD j rr0 = y at *
        have c02' := fun (L : List Lv) (g : Nat) => (c02 L g).trans (show _ = AV.s y.o from rfl)
        have c12' := fun (L : List Lv) (g : Nat) => (c12 L g).trans (show _ = AV.i .i64 y.t from rfl)
        have c22' := fun (L : List Lv) (g : Nat) => (c22 L g).trans (show _ = AV.i .i64 y.c from rfl)
        by_cases e1 : y.o = x.o
        · have e1' := eq_true e1
          by_cases e2 : y.t = x.t
          · have e2' := eq_true e2
            by_cases e3 : y.c = x.c
            · have e3' := eq_true e3
              rw [if_pos ⟨e1, e2, e3⟩] at hR
              simp -implicitDefEqProofs only [bU, reduceIte, Nat.reduceEqDiff, reduceCtorEq, implies_true, forall_const, eq_self, Nat.reduceAdd, Nat.reduceLT, bne_self_eq_false, bT, eq_self, true_implies, false_implies, forall_const, if_true, if_false, Int.reduceToNat, Nat.reduceSub, Int.reduceLE, bV, Nat.reduceAdd, Nat.reduceLT, Nat.reduceLeDiff, Nat.reduceLeDiff, q0, q6, q7, z0, w1, w2, f1, f2, f3, g1, g2, g3, d01, d02', d11, d12', d21, d22', c01, c02', c11, c12', c21, c22', e1', e2', e3', toNat_nat]
              exact ⟨j, by omega, _, by omega, rfl, rfl, hR⟩
            · rw [if_neg fun hh => e3 hh.2.2] at hR
              simp -implicitDefEqProofs only [bU, reduceIte, Nat.reduceEqDiff, reduceCtorEq, implies_true, forall_const, eq_self, Nat.reduceAdd, Nat.reduceLT, bne_self_eq_false, bT, eq_self, true_implies, false_implies, forall_const, if_true, if_false, Int.reduceToNat, Nat.reduceSub, Int.reduceLE, bV, Nat.reduceAdd, Nat.reduceLT, Nat.reduceLeDiff, Nat.reduceLeDiff, q0, q6, q7, z0, w1, w2, f1, f2, f3, g1, g2, g3, d01, d02', d11, d12', d21, d22', c01, c02', c11, c12', c21, c22', e1', e2', e3, toNat_nat]
              exact stop hR _ _ _ rfl rfl rfl
          · rw [if_neg fun hh => e2 hh.2.1] at hR
            simp -implicitDefEqProofs only [bU, reduceIte, Nat.reduceEqDiff, reduceCtorEq, implies_true, forall_const, eq_self, Nat.reduceAdd, Nat.reduceLT, bne_self_eq_false, bT, eq_self, true_implies, false_implies, forall_const, if_true, if_false, Int.reduceToNat, Nat.reduceSub, Int.reduceLE, bV, Nat.reduceAdd, Nat.reduceLT, Nat.reduceLeDiff, Nat.reduceLeDiff, q0, q6, q7, z0, w1, w2, f1, f2, f3, g1, g2, g3, d01, d02', d11, d12', d21, d22', c01, c02', c11, c12', c21, c22', e1', e2, toNat_nat]
            exact stop hR _ _ _ rfl rfl rfl
        · rw [if_neg fun hh => e1 hh.1] at hR
          simp -implicitDefEqProofs only [bU, reduceIte, Nat.reduceEqDiff, reduceCtorEq, implies_true, forall_const, eq_self, Nat.reduceAdd, Nat.reduceLT, bne_self_eq_false, bT, eq_self, true_implies, false_implies, forall_const, if_true, if_false, Int.reduceToNat, Nat.reduceSub, Int.reduceLE, bV, Nat.reduceAdd, Nat.reduceLT, Nat.reduceLeDiff, Nat.reduceLeDiff, q0, q6, q7, z0, w1, w2, f1, f2, f3, g1, g2, g3, d01, d02', d11, d12', d21, d22', c01, c02', c11, c12', c21, c22', e1, toNat_nat]
          exact stop hR _ _ _ rfl rfl rfl
  obtain ⟨F, hFd⟩ : ∃ F, F = sAt c_spec_l13Drop.s [1, 1, 1] := ⟨_, rfl⟩
  rw [← hFd] at after
  simp only [c_spec_l13Drop, sAt] at hFd
  rw [← hFd]
  clear hFd
  cases n with
  | zero =>
    have z0 : ¬ (0 : Int) < ((0 : Nat) : Int) := by decide
    simp -implicitDefEqProofs only [bU, reduceIte, Nat.reduceEqDiff, reduceCtorEq, implies_true, forall_const, eq_self, Nat.reduceAdd, Nat.reduceLT, bne_self_eq_false, bT, eq_self, true_implies, false_implies, forall_const, if_true, if_false, Int.reduceToNat, Nat.reduceSub, Int.reduceLE, bV, Nat.reduceAdd, Nat.reduceLT, Nat.reduceLeDiff, Nat.reduceLeDiff, q0, q1, q6, z0]
    exact after _ _ rfl rfl hE
  | succ j =>
    have hjl : j < xs.length := by omega
    have z0 : (0 : Int) < ((j + 1 : Nat) : Int) := by omega
    have w2 : IntKind.i64.wrap (((j + 1 : Nat) : Int) - 1) = ((j : Nat) : Int) := by rw [w64 (by omega) (by omega)]; omega
    obtain ⟨f1, f2, f3, f4⟩ := fld j hjl
    obtain ⟨c11, c12⟩ := f4 1 (by decide)
    simp only [stripE] at hE
    generalize xs.getD j rr0 = y at *
    have c12' := fun (L : List Lv) (g : Nat) => (c12 L g).trans (show _ = AV.i .i64 y.t from rfl)
    cases keep with
    | false =>
      rw [if_neg (by simp)] at hE
      simp -implicitDefEqProofs only [bU, reduceIte, Nat.reduceEqDiff, reduceCtorEq, implies_true, forall_const, eq_self, Nat.reduceAdd, Nat.reduceLT, bne_self_eq_false, bT, eq_self, true_implies, false_implies, forall_const, if_true, if_false, Int.reduceToNat, Nat.reduceSub, Int.reduceLE, bV, Nat.reduceAdd, Nat.reduceLT, Nat.reduceLeDiff, Nat.reduceLeDiff, q0, q1, q6, z0]
      exact after _ _ rfl rfl hE
    | true =>
      by_cases e1 : y.t = 41
      · have e1' := eq_true e1
        rw [if_pos ⟨rfl, e1⟩] at hE
        simp -implicitDefEqProofs only [bU, reduceIte, Nat.reduceEqDiff, reduceCtorEq, implies_true, forall_const, eq_self, Nat.reduceAdd, Nat.reduceLT, bne_self_eq_false, bT, eq_self, true_implies, false_implies, forall_const, if_true, if_false, Int.reduceToNat, Nat.reduceSub, Int.reduceLE, bV, Nat.reduceAdd, Nat.reduceLT, Nat.reduceLeDiff, Nat.reduceLeDiff, q0, q1, q6, z0, w2, f1, f2, f3, c11, c12', e1', toNat_nat]
        exact ⟨j, by omega, _, by omega, rfl, rfl, hE⟩
      · rw [if_neg fun hh => e1 hh.2] at hE
        simp -implicitDefEqProofs only [bU, reduceIte, Nat.reduceEqDiff, reduceCtorEq, implies_true, forall_const, eq_self, Nat.reduceAdd, Nat.reduceLT, bne_self_eq_false, bT, eq_self, true_implies, false_implies, forall_const, if_true, if_false, Int.reduceToNat, Nat.reduceSub, Int.reduceLE, bV, Nat.reduceAdd, Nat.reduceLT, Nat.reduceLeDiff, Nat.reduceLeDiff, q0, q1, q6, z0, w2, f1, f2, f3, c11, c12', e1, toNat_nat]
        exact after _ _ rfl rfl hE
end
end Go.Vm

/- Messages cut to a budget: plainly; messages copied. -/
namespace Go.Vm
set_option linter.unusedVariables false
set_option linter.unusedSimpArgs false
/-! Plainly. -/
theorem drp_some {keep : Bool} {l l' : List Rr} (h : drp keep l = some l') : l'.length < l.length ∧ (∀ x, x ∈ l' → x ∈ l) ∧ ∀ w : Rr → Nat, tot' w l' ≤ tot' w l := by
  unfold drp at h
  by_cases h0 : stripE l keep l.length = 0
  · rw [if_pos h0] at h; cases h
  · rw [if_neg h0] at h
    cases h
    have h1 := stripE_le l keep l.length
    have h2 := runF_le l (l.getD (stripE l keep l.length - 1) rr0) (stripE l keep l.length - 1)
    generalize runF l (l.getD (stripE l keep l.length - 1) rr0) (stripE l keep l.length - 1) = f at *
    generalize stripE l keep l.length = e at *
    refine ⟨by simp; omega, fun x hx => ?_, fun w => ?_⟩
    · rcases List.mem_append.1 hx with h | h
      · exact List.mem_of_mem_take h
      · exact List.mem_of_mem_drop h
    · rw [tot_app']
      have h3 : tot' w l = tot' w (l.take f) + tot' w ((l.drop f).take (e - f)) + tot' w (l.drop e) := by
        conv => lhs; rw [← List.take_append_drop f l, tot_app', ← List.take_append_drop (e - f) (l.drop f), tot_app', List.drop_drop, show f + (e - f) = e by omega]
        omega
      omega
def cntM (m : Msg) : Nat := m.an.length + m.au.length + m.ex.length
def tcH (h : Hd) : Hd := ⟨h.id, h.qr, h.op, h.aa, true, h.rd, h.ra, h.z, h.ad, h.cd, h.code⟩
def trStep (m : Msg) : Option Msg := match drp true m.ex with
  | some x => some ⟨m.h, m.q, m.an, m.au, x⟩
  | none => match drp false m.au with
    | some x => some ⟨tcH m.h, m.q, m.an, x, m.ex⟩
    | none => match drp false m.an with
      | some x => some ⟨tcH m.h, m.q, x, m.au, m.ex⟩
      | none => none
theorem trStep_some {m m' : Msg} (h : trStep m = some m') : cntM m' < cntM m ∧ szM m' ≤ szM m ∧ (msgOk m = true → msgOk m' = true) := by
  have key : ∀ (h : Hd) (an au ex : List Rr), hdOk h = hdOk m.h → (an.length + au.length + ex.length < cntM m) → (∀ x, x ∈ an → x ∈ m.an) → (∀ x, x ∈ au → x ∈ m.au) → (∀ x, x ∈ ex → x ∈ m.ex) → (an.length + tot' w_RR an ≤ m.an.length + tot' w_RR m.an) → (au.length + tot' w_RR au ≤ m.au.length + tot' w_RR m.au) → (ex.length + tot' w_RR ex ≤ m.ex.length + tot' w_RR m.ex) →
      cntM ⟨h, m.q, an, au, ex⟩ < cntM m ∧ szM ⟨h, m.q, an, au, ex⟩ ≤ szM m ∧ (msgOk m = true → msgOk ⟨h, m.q, an, au, ex⟩ = true) := by
    intro h an au ex hh hc h1 h2 h3 h4 h5 h6
    refine ⟨hc, by unfold szM; simp only; omega, fun hm => ?_⟩
    obtain ⟨g0, g1, g2, g3, g4, g5⟩ := msgOk_iff hm
    unfold cntM at hc
    simp only [msgOk, hh, g0, Bool.true_and, Bool.and_eq_true, decide_eq_true_eq, List.all_eq_true]
    exact ⟨⟨by omega, g2⟩, ⟨fun x hx => g3 x (h1 x hx), fun x hx => g4 x (h2 x hx)⟩, fun x hx => g5 x (h3 x hx)⟩
  unfold trStep at h
  cases h1 : drp true m.ex with
  | some x =>
    rw [h1] at h
    cases h
    obtain ⟨a, b, c⟩ := drp_some h1
    have := c w_RR
    exact key _ _ _ _ rfl (by unfold cntM; omega) (fun x h => h) (fun x h => h) b (by omega) (by omega) (by omega)
  | none =>
    rw [h1] at h
    simp only at h
    cases h2 : drp false m.au with
    | some x =>
      rw [h2] at h
      cases h
      obtain ⟨a, b, c⟩ := drp_some h2
      have := c w_RR
      exact key _ _ _ _ rfl (by unfold cntM; omega) (fun x h => h) b (fun x h => h) (by omega) (by omega) (by omega)
    | none =>
      rw [h2] at h
      simp only at h
      cases h3 : drp false m.an with
      | some x =>
        rw [h3] at h
        cases h
        obtain ⟨a, b, c⟩ := drp_some h3
        have := c w_RR
        exact key _ _ _ _ rfl (by unfold cntM; omega) b (fun x h => h) (fun x h => h) (by omega) (by omega) (by omega)
      | none => rw [h3] at h; cases h
def trM (b : Int) (m : Msg) : Msg := if b < ((wrM m).1.length : Int) then (match _h : trStep m with
  | some m' => trM b m'
  | none => m) else m
termination_by cntM m
decreasing_by exact (trStep_some _h).1
theorem trM_fit {b : Int} {m : Msg} (h : ¬ b < ((wrM m).1.length : Int)) : trM b m = m := by rw [trM, if_neg h]
theorem trM_stop {b : Int} {m : Msg} (h : trStep m = none) : trM b m = m := by
  rw [trM]
  split
  · split
    · rename_i h2; rw [h] at h2; cases h2
    · rfl
  · rfl
theorem trM_step {b : Int} {m m' : Msg} (hb : b < ((wrM m).1.length : Int)) (h : trStep m = some m') : trM b m = trM b m' := by
  rw [trM, if_pos hb]
  split
  · rename_i m2 h2
    rw [h] at h2
    cases h2
    rfl
  · rename_i h2; rw [h] at h2; cases h2
/-! Own rows. -/
structure MsgC (H : AH) (n0 : Nat) (q a b c : AV) (m : Msg) : Prop where
  m : MsgM H n0 q a b c m
  ca : Cl H a
  cb : Cl H b
  cc : Cl H c
theorem MsgC.ext {H H' : AH} {n0 : Nat} {q a b c : AV} {m : Msg} (h : MsgC H n0 q a b c m) (he : Ext H H') : MsgC H' n0 q a b c m :=
  ⟨h.m.ext he, h.ca.fr fun i hi => he.at' i (Mn.lt h.m.ha i hi), h.cb.fr fun i hi => he.at' i (Mn.lt h.m.hb i hi), h.cc.fr fun i hi => he.at' i (Mn.lt h.m.hc i hi)⟩
theorem Dj.new {H : AH} {z : Nat} {a x : AV} {els : List AV} (h : Mn H z a els) (hx : ∀ i, i ∈ idA x → H.n ≤ i) : Dj a x := fun i hi hj => by
  have := h.lt i hi
  have := hx i hj
  omega
section
variable {H H' : AH} {n0 : Nat} {q a b c x : AV} {m : Msg} {ys : List Rr}
theorem MsgC.setC (h : MsgC H n0 q a b c m) (hn : n0 ≤ H.n) (he : Ext H H') (hx : Mx H' eR x ys) (hcl : Cl H' x) (hi : ∀ i, i ∈ idA x → H.n ≤ i) (k : Hd) : MsgC H' n0 q a b x ⟨k, m.q, m.an, m.au, ys⟩ := by
  have h' := h.ext he
  refine ⟨⟨h'.m.hq, h'.m.ha, h'.m.hb, hx, h.m.qa, h.m.qb, Dj.new h.m.hq hi, h.m.ab, Dj.new h.m.ha hi, Dj.new h.m.hb hi, fun i hj => ?_⟩, h'.ca, h'.cb, hcl⟩
  simp only [List.mem_append] at hj
  rcases hj with ((hj | hj) | hj) | hj
  · exact h.m.ge i (by simp [hj])
  · exact h.m.ge i (by simp [hj])
  · exact h.m.ge i (by simp [hj])
  · have := hi i hj; omega
theorem MsgC.setB (h : MsgC H n0 q a b c m) (hn : n0 ≤ H.n) (he : Ext H H') (hx : Mx H' eR x ys) (hcl : Cl H' x) (hi : ∀ i, i ∈ idA x → H.n ≤ i) (k : Hd) : MsgC H' n0 q a x c ⟨k, m.q, m.an, ys, m.ex⟩ := by
  have h' := h.ext he
  refine ⟨⟨h'.m.hq, h'.m.ha, hx, h'.m.hc, h.m.qa, Dj.new h.m.hq hi, h.m.qc, Dj.new h.m.ha hi, h.m.ac, (Dj.new h.m.hc hi).symm, fun i hj => ?_⟩, h'.ca, hcl, h'.cc⟩
  simp only [List.mem_append] at hj
  rcases hj with ((hj | hj) | hj) | hj
  · exact h.m.ge i (by simp [hj])
  · exact h.m.ge i (by simp [hj])
  · have := hi i hj; omega
  · exact h.m.ge i (by simp [hj])
theorem MsgC.setA (h : MsgC H n0 q a b c m) (hn : n0 ≤ H.n) (he : Ext H H') (hx : Mx H' eR x ys) (hcl : Cl H' x) (hi : ∀ i, i ∈ idA x → H.n ≤ i) (k : Hd) : MsgC H' n0 q x b c ⟨k, m.q, ys, m.au, m.ex⟩ := by
  have h' := h.ext he
  refine ⟨⟨h'.m.hq, hx, h'.m.hb, h'.m.hc, Dj.new h.m.hq hi, h.m.qb, h.m.qc, (Dj.new h.m.hb hi).symm, (Dj.new h.m.hc hi).symm, h.m.bc, fun i hj => ?_⟩, hcl, h'.cb, h'.cc⟩
  simp only [List.mem_append] at hj
  rcases hj with ((hj | hj) | hj) | hj
  · exact h.m.ge i (by simp [hj])
  · have := hi i hj; omega
  · exact h.m.ge i (by simp [hj])
  · exact h.m.ge i (by simp [hj])
end
/-- A row copied by append. -/
theorem copy1 {α : Type} {E : Enc α} {H : AH} {a : AV} {xs : List α} {by' : Nat} (h : Sx H E a xs) (hb : xs.length * by' ≤ 140737488355328) : ∃ o H2, (∀ (L : List Lv) (g : Nat), apC ⟨L, g, H.new (.arr true 0 E.z [])⟩ E.z by' a (.sl H.n 0 0)) ∧ (∀ (L : List Lv) (g : Nat), apV ⟨L, g, H.new (.arr true 0 E.z [])⟩ a (.sl H.n 0 0) = o) ∧
    (∀ (L : List Lv) (g : Nat), apM ⟨L, g, H.new (.arr true 0 E.z [])⟩ E.z a (.sl H.n 0 0) = ⟨L, g, H2⟩) ∧ Mx H2 E o xs ∧ Cl H2 o ∧ Ext H H2 ∧ (∀ i, i ∈ idA o → H.n ≤ i) ∧ o.outs = true ∧ o.cells = [o] := by
  have e1 := Ext.new H (.arr true 0 E.z [])
  have h1 : Sx (H.new (.arr true 0 E.z [])) E a xs := Sl.ext h e1
  obtain ⟨n1, n2⟩ := Mx.new0 (E := E) H
  have key := fun (L : List Lv) (g : Nat) => Mn.ap (by' := by') (y := a) n1 (h1.src L g) (by simpa using hb)
  obtain ⟨-, o, H2, p2, p3, p4, p5, p6, p7, -, p9⟩ := key [] 0
  have hV : ∀ (L : List Lv) (g : Nat), apV ⟨L, g, H.new (.arr true 0 E.z [])⟩ a (.sl H.n 0 0) = o := fun L g => by
    rw [← p2]
    simp only [apV, (h1.src L g).1, (h1.src [] 0).1]
  have hM : ∀ (L : List Lv) (g : Nat), apM ⟨L, g, H.new (.arr true 0 E.z [])⟩ E.z a (.sl H.n 0 0) = ⟨L, g, H2⟩ := fun L g => by
    simp only [apM, (h1.src L g).1, (h1.src [] 0).1, new_at] at p3 ⊢
    split at p3
    · rename_i h0
      rw [if_pos h0]
      have := congrArg Mem.h p3
      simp only at this
      rw [this]
    · rename_i h0
      rw [if_neg h0]
      have := congrArg Mem.h p3
      simp only at this
      rw [this]
  refine ⟨o, H2, fun L g => (key L g).1, hV, hM, by simpa using p4, p9 n2, e1.put (l := [H.n]) (by simp) p5 (fun i hi hn => p6 i hi hn), fun i hi => ?_, p4.sl.out, p4.sl.one⟩
  rcases p7 i hi with h | h
  · simp only [idA, List.mem_singleton] at h; omega
  · have := e1.n; omega
def T_copyM (C : Tab) (f : Nat) : Prop := ∀ (q a b c : AV) (m : Msg) (H : AH), MsgS H q a b c m → szM m ≤ 1048576 → ∃ v H', C f [mV m.h q a b c] H = some (v, H') ∧ ∃ q' a' b' c', v = mV m.h q' a' b' c' ∧ Ext H H' ∧ MsgC H' H.n q' a' b' c' m
section
variable {C : Tab}
set_option maxHeartbeats 1000000 in
theorem r_copyI {q a b c : AV} {m : Msg} {H : AH} (h : MsgS H q a b c m) (hs : szM m ≤ 1048576) : Runs C c_impl_copyMessage [mV m.h q a b c] H fun v H' => ∃ q' a' b' c', v = mV m.h q' a' b' c' ∧ Ext H H' ∧ MsgC H' H.n q' a' b' c' m := by
  unfold Runs c_impl_copyMessage mV
  have hs' := hs
  unfold szM at hs'
  have o1 := h.hq.out
  have o2 := h.ha.out
  have o3 := h.hb.out
  have o4 := h.hc.out
  have y1 := h.hq.one
  have y2 := h.ha.one
  have y3 := h.hb.one
  have y4 := h.hc.one
  obtain ⟨q', H1, a1, a2, a3, a4, a5, a6, a7, a8, a9⟩ := copy1 (by' := 32) h.hq (by omega)
  obtain ⟨a', H2, b1, b2, b3, b4, b5, b6, b7, b8, b9⟩ := copy1 (by' := 56) (Sl.ext h.ha a6) (by omega)
  obtain ⟨b', H3, c1, c2, c3, c4, c5, c6, c7, c8, c9⟩ := copy1 (by' := 56) (Sl.ext h.hb (a6.trans b6)) (by omega)
  obtain ⟨c', H4, d1, d2, d3, d4, d5, d6, d7, d8, d9⟩ := copy1 (by' := 56) (Sl.ext h.hc ((a6.trans b6).trans c6)) (by omega)
  simp only [show eQ.z = 3 from rfl, show eR.z = 5 from rfl] at a1 a2 a3 b1 b2 b3 c1 c2 c3 d1 d2 d3
  simp -implicitDefEqProofs only [bU, reduceIte, Nat.reduceEqDiff, reduceCtorEq, implies_true, forall_const, eq_self, Nat.reduceAdd, Nat.reduceLT, bne_self_eq_false, bT, eq_self, true_implies, false_implies, forall_const, if_true, if_false, Int.reduceToNat, Nat.reduceSub, Int.reduceLE, bV, Nat.reduceAdd, Nat.reduceLT, Nat.reduceLeDiff, Nat.reduceLeDiff, o1, o2, o3, o4, y1, y2, y3, y4, a1, a2, a3, a8, a9, b1, b2, b3, b8, b9, c1, c2, c3, c8, c9, d1, d2, d3, d8, d9, fillEC, fillE, List.replicate, endK, rsC, rsV, resV]
  refine ⟨q', a', b', c', rfl, ((a6.trans b6).trans c6).trans d6, ⟨⟨Mn.ext a4 ((b6.trans c6).trans d6), Mn.ext b4 (c6.trans d6), Mn.ext c4 d6, d4, Dj.new a4 b7, Dj.new a4 fun i hi => ?_, Dj.new a4 fun i hi => ?_, Dj.new b4 c7, Dj.new b4 fun i hi => ?_, Dj.new c4 d7, fun i hi => ?_⟩, ?_, ?_, d5⟩⟩
  · have := c7 i hi; have := b6.n; omega
  · have := d7 i hi; have := b6.n; have := c6.n; omega
  · have := d7 i hi; have := c6.n; omega
  · have := a6.n; have := b6.n; have := c6.n
    simp only [List.mem_append] at hi
    rcases hi with ((hi | hi) | hi) | hi
    · exact a7 i hi
    · have := b7 i hi; omega
    · have := c7 i hi; omega
    · have := d7 i hi; omega
  · exact b5.fr fun i hi => (c6.trans d6).at' i (Mn.lt b4 i hi)
  · exact c5.fr fun i hi => d6.at' i (Mn.lt c4 i hi)
end
end Go.Vm

/- Messages cut to a budget: the specification's side. -/
namespace Go.Vm
set_option linter.unusedVariables false
set_option linter.unusedSimpArgs false
abbrev z15 : AV := .ag [.i .i64 0, .b false, .i .i64 0, .b false, .b false, .b false, .b false, .b false, .b false, .b false, .i .i64 0, .ns, .ns, .ns, .ns]
theorem lit_srcQ {t g : Nat} {x : Qn} {L : List Lv} {H : AH} : srcV ⟨⟨t, g, 0, [.ag [.s x.n, .i .i64 x.t, .i .i64 x.c]]⟩ :: L, g + 1, H⟩ (.ll t g 3 1) = [eQ.v x] ∧ srcC ⟨⟨t, g, 0, [.ag [.s x.n, .i .i64 x.t, .i .i64 x.c]]⟩ :: L, g + 1, H⟩ 3 (.ll t g 3 1) := by
  simp [srcV, srcC, Mem.getL, Mem.hasL, lookL, eQ, Enc.v]
def T_truncB (C : Tab) (f : Nat) : Prop := ∀ (q a b c : AV) (m : Msg) (bud : Int) (n0 : Nat) (H : AH), FormsOK H → MsgC H n0 q a b c m → n0 ≤ H.n → szM m ≤ 1048576 → msgOk m = true → ∃ v H', C f [mV m.h q a b c, .i .i64 bud] H = some (v, H') ∧ ∃ q' a' b' c', v = mV (trM bud m).h q' a' b' c' ∧ Ext H H' ∧ MsgM H' n0 q' a' b' c' (trM bud m)
section
variable {C : Tab}
set_option maxHeartbeats 1000000 in
theorem r_copyS {q a b c : AV} {m : Msg} {H : AH} (hJ : T_join C n_spec_l06Join) (h : MsgS H q a b c m) (hs : szM m ≤ 1048576) : Runs C c_spec_l13CopyMessage [mV m.h q a b c] H fun v H' => ∃ q' a' b' c', v = mV m.h q' a' b' c' ∧ Ext H H' ∧ MsgC H' H.n q' a' b' c' m := by
  unfold Runs c_spec_l13CopyMessage mV
  have hs' := hs
  unfold szM at hs'
  have o1 := h.hq.out
  have o2 := h.ha.out
  have o3 := h.hb.out
  have o4 := h.hc.out
  have y1 := h.hq.one
  have y2 := h.ha.one
  have y3 := h.hb.one
  have y4 := h.hc.one
  obtain ⟨l1, m1⟩ := h.hq.len
  simp -implicitDefEqProofs only [bU, reduceIte, Nat.reduceEqDiff, reduceCtorEq, implies_true, forall_const, eq_self, Nat.reduceAdd, Nat.reduceLT, bne_self_eq_false, bT, eq_self, true_implies, false_implies, forall_const, if_true, if_false, Int.reduceToNat, Nat.reduceSub, Int.reduceLE, bV, Nat.reduceAdd, Nat.reduceLT, Nat.reduceLeDiff, Nat.reduceLeDiff, o1, o2, o3, o4, y1, y2, y3, y4]
  refine exec_loop (fun n e M => ∃ (i : Nat) (o : AV) (H' : AH) (L : List Lv) (g : Nat), i ≤ m.q.length ∧ n = m.q.length - i ∧ look e 1 = .la 1 0 0 0 ∧ look e 2 = .la 2 1 0 0 ∧ look e 3 = .la 3 2 0 0 ∧ look e 4 = .i .i64 i ∧ M = ⟨L, g, H'⟩ ∧ keepL [1, 2, 3, 4] L = [⟨3, 2, 0, [mV m.h o .ns .ns .ns]⟩, ⟨2, 1, 0, [z15]⟩, ⟨1, 0, 0, [mV m.h q a b c]⟩] ∧ Mx H' eQ o (m.q.take i) ∧ Ext H H' ∧ ∀ j, j ∈ idA o → H.n ≤ j) ?_ (n := m.q.length)
    ⟨0, .ns, H, _, _, by omega, by omega, rfl, rfl, rfl, rfl, rfl, rfl, .nil, .refl _, by simp [idA]⟩
  rintro n e M ⟨i, o, H', L, g, hi, rfl, q1, q2, q3, q4, rfl, hL, hm, he, hid⟩
  unfold mV at hL
  have oo := (Mn.sl hm).out
  have yo := (Mn.sl hm).one
  by_cases hlt : (i : Int) < m.q.length
  · have hil : i < m.q.length := by omega
    obtain ⟨b1, b2, b3, b4⟩ := Sx.at' (Sl.ext h.hq he) hil
    have w9 : IntKind.i64.wrap ((i : Int) + 1) = ((i + 1 : Nat) : Int) := by rw [w64 (by omega) (by omega)]; rfl
    obtain ⟨p1, o', H2, p2, p3, p4, p5, p6, p7, -⟩ := Mn.ap (by' := 32) hm (lit_srcQ (t := 22) (g := g) (x := m.q[i]) (L := [⟨3, 2, 0, [mV m.h o .ns .ns .ns]⟩, ⟨2, 1, 0, [z15]⟩, ⟨1, 0, 0, [mV m.h q a b c]⟩]) (H := H')) (by simp; omega)
    unfold mV at p1 p2 p3
    have oo' := p4.sl.out
    have yo' := p4.sl.one
    simp only [show eQ.z = 3 from rfl, show eQ.v m.q[i] = AV.ag [.s m.q[i].n, .i .i64 m.q[i].t, .i .i64 m.q[i].c] from rfl] at b1 b3 b4 p1 p3
    simp -implicitDefEqProofs only [bU, reduceIte, Nat.reduceEqDiff, reduceCtorEq, implies_true, forall_const, eq_self, Nat.reduceAdd, Nat.reduceLT, bne_self_eq_false, bT, eq_self, true_implies, false_implies, forall_const, if_true, if_false, Int.reduceToNat, Nat.reduceSub, Int.reduceLE, bV, Nat.reduceAdd, Nat.reduceLT, Nat.reduceLeDiff, Nat.reduceLeDiff, lgAt, isRd, q1, q2, q3, q4, hL, o1, o2, o3, o4, y1, y2, y3, y4, oo, yo, l1, m1, hlt, b1, b2, b3, b4, toNat_nat, fillEC, fillE, List.replicate, List.set]
    simp -implicitDefEqProofs only [bU, reduceIte, Nat.reduceEqDiff, reduceCtorEq, implies_true, forall_const, eq_self, Nat.reduceAdd, Nat.reduceLT, bne_self_eq_false, bT, eq_self, true_implies, false_implies, forall_const, if_true, if_false, Int.reduceToNat, Nat.reduceSub, Int.reduceLE, bV, Nat.reduceAdd, Nat.reduceLT, Nat.reduceLeDiff, Nat.reduceLeDiff, p1, p2, p3, w9, oo', yo']
    refine ⟨m.q.length - (i + 1), by omega, i + 1, o', H2, _, _, by omega, rfl, rfl, rfl, rfl, ?_, he.put hid p5 p6, fun j hj => ?_⟩
    · rw [← List.take_append_getElem hil]
      show Mn H2 eQ.z o' _
      rw [List.map_append]; exact p4
    · rcases p7 j hj with h | h
      · exact hid j h
      · have := he.n; omega
  · have hie : i = m.q.length := by omega
    rw [hie, List.take_length] at hm
    obtain ⟨n1, n2⟩ := Mx.new0 (E := eR) H'
    have e1 := Ext.new H' (.arr true 0 eR.z [])
    obtain ⟨oa, Ha, j1, j2, j3, j4, j5⟩ := hJ (.sl H'.n 0 0) a [] m.an _ n1 n2 (Sl.ext h.ha (he.trans e1)) (fun j hj hh => by have := h.ha.lt j hj; simp only [idA, List.mem_singleton] at hh; have := he.n; omega) (by simp; omega)
    have eA : Ext H' Ha := e1.put (l := [H'.n]) (by simp) j4.n j4.at'
    have gA : ∀ j, j ∈ idA oa → H'.n ≤ j := fun j hj => by
      rcases j5 j hj with h | h
      · simp only [idA, List.mem_singleton] at h; omega
      · have := e1.n; omega
    obtain ⟨n3, n4⟩ := Mx.new0 (E := eR) Ha
    have e2 := Ext.new Ha (.arr true 0 eR.z [])
    obtain ⟨ob, Hb, k1, k2, k3, k4, k5⟩ := hJ (.sl Ha.n 0 0) b [] m.au _ n3 n4 (Sl.ext h.hb ((he.trans eA).trans e2)) (fun j hj hh => by have := h.hb.lt j hj; simp only [idA, List.mem_singleton] at hh; have := he.n; have := eA.n; omega) (by simp; omega)
    have eB : Ext Ha Hb := e2.put (l := [Ha.n]) (by simp) k4.n k4.at'
    have gB : ∀ j, j ∈ idA ob → Ha.n ≤ j := fun j hj => by
      rcases k5 j hj with h | h
      · simp only [idA, List.mem_singleton] at h; omega
      · have := e2.n; omega
    obtain ⟨n5, n6⟩ := Mx.new0 (E := eR) Hb
    have e3 := Ext.new Hb (.arr true 0 eR.z [])
    obtain ⟨oc, Hc, t1, t2, t3, t4, t5⟩ := hJ (.sl Hb.n 0 0) c [] m.ex _ n5 n6 (Sl.ext h.hc (((he.trans eA).trans eB).trans e3)) (fun j hj hh => by have := h.hc.lt j hj; simp only [idA, List.mem_singleton] at hh; have := he.n; have := eA.n; have := eB.n; omega) (by simp; omega)
    have eC : Ext Hb Hc := e3.put (l := [Hb.n]) (by simp) t4.n t4.at'
    have gC : ∀ j, j ∈ idA oc → Hb.n ≤ j := fun j hj => by
      rcases t5 j hj with h | h
      · simp only [idA, List.mem_singleton] at h; omega
      · have := e3.n; omega
    rw [List.nil_append] at j2 k2 t2
    simp only [show eR.z = 5 from rfl] at j1 k1 t1
    have x1 := (Mn.sl j2).out
    have x2 := (Mn.sl j2).one
    have x3 := (Mn.sl k2).out
    have x4 := (Mn.sl k2).one
    have x5 := (Mn.sl t2).out
    have x6 := (Mn.sl t2).one
    simp -implicitDefEqProofs only [bU, reduceIte, Nat.reduceEqDiff, reduceCtorEq, implies_true, forall_const, eq_self, Nat.reduceAdd, Nat.reduceLT, bne_self_eq_false, bT, eq_self, true_implies, false_implies, forall_const, if_true, if_false, Int.reduceToNat, Nat.reduceSub, Int.reduceLE, bV, Nat.reduceAdd, Nat.reduceLT, Nat.reduceLeDiff, Nat.reduceLeDiff, q1, q2, q3, q4, hL, o1, o2, o3, o4, y1, y2, y3, y4, oo, yo, l1, m1, hlt, j1, k1, t1, x1, x2, x3, x4, x5, x6, fillEC, fillE, List.replicate, endK, rsC, rsV, resV]
    refine ⟨o, oa, ob, oc, rfl, ((he.trans eA).trans eB).trans eC, ⟨⟨Mn.ext hm ((eA.trans eB).trans eC), Mn.ext j2 (eB.trans eC), Mn.ext k2 eC, t2, Dj.new hm gA, Dj.new hm fun i hi => ?_, Dj.new hm fun i hi => ?_, Dj.new j2 gB, Dj.new j2 fun i hi => ?_, Dj.new k2 gC, fun i hi => ?_⟩, ?_, ?_, t3⟩⟩
    · have := gB i hi; have := eA.n; omega
    · have := gC i hi; have := eA.n; have := eB.n; omega
    · have := gC i hi; have := eB.n; omega
    · have := he.n; have := eA.n; have := eB.n
      simp only [List.mem_append] at hi
      rcases hi with ((hi | hi) | hi) | hi
      · exact hid i hi
      · have := gA i hi; omega
      · have := gB i hi; omega
      · have := gC i hi; omega
    · exact j3.fr fun i hi => (eB.trans eC).at' i (Mn.lt j2 i hi)
    · exact k3.fr fun i hi => eC.at' i (Mn.lt k2 i hi)
set_option maxHeartbeats 2000000 in
theorem r_truncS {q a b c : AV} {m : Msg} {bud : Int} {n0 : Nat} {H : AH} (hW : T_write C n_spec_l04Write) (hD : T_drop C n_spec_l13Drop) (hF : FormsOK H) (h : MsgC H n0 q a b c m) (hn0 : n0 ≤ H.n) (hs : szM m ≤ 1048576) (hm : msgOk m = true) :
    Runs C c_spec_l13Truncate [mV m.h q a b c, .i .i64 bud] H fun v H' => ∃ q' a' b' c', v = mV (trM bud m).h q' a' b' c' ∧ Ext H H' ∧ MsgM H' n0 q' a' b' c' (trM bud m) := by
  unfold Runs c_spec_l13Truncate mV
  simp -implicitDefEqProofs only [bU, reduceIte, Nat.reduceEqDiff, reduceCtorEq, implies_true, forall_const, eq_self, Nat.reduceAdd, Nat.reduceLT, bne_self_eq_false, bT, eq_self, true_implies, false_implies, forall_const, if_true, if_false, Int.reduceToNat, Nat.reduceSub, Int.reduceLE, bV, Nat.reduceAdd, Nat.reduceLT, Nat.reduceLeDiff, Nat.reduceLeDiff, h.m.hq.sl.out, h.m.ha.sl.out, h.m.hb.sl.out, h.m.hc.sl.out, h.m.hq.sl.one, h.m.ha.sl.one, h.m.hb.sl.one, h.m.hc.sl.one]
  refine exec_loop (fun n e M => ∃ (m' : Msg) (q a b c : AV) (H' : AH) (L : List Lv) (g : Nat), n = cntM m' ∧ look e 1 = .i .i64 bud ∧ look e 2 = .la 2 0 0 0 ∧ look e 4 = .la 4 1 0 0 ∧ M = ⟨L, g, H'⟩ ∧ keepL [1, 2, 4] L = [⟨4, 1, 0, [z15]⟩, ⟨2, 0, 0, [mV m'.h q a b c]⟩] ∧ MsgC H' n0 q a b c m' ∧ Ext H H' ∧ szM m' ≤ 1048576 ∧ msgOk m' = true ∧ trM bud m = trM bud m') ?_ (n := cntM m)
    ⟨m, q, a, b, c, H, _, _, rfl, rfl, rfl, rfl, rfl, rfl, h, .refl _, hs, hm, rfl⟩
  clear h hs hm q a b c
  rintro n e M ⟨m', q, a, b, c, H', L, g, rfl, q1, q2, q4, rfl, hL, h, he, hs, hm, htr⟩
  rw [htr]
  have o1 := h.m.hq.sl.out
  have o2 := h.m.ha.sl.out
  have o3 := h.m.hb.sl.out
  have o4 := h.m.hc.sl.out
  have y1 := h.m.hq.sl.one
  have y2 := h.m.ha.sl.one
  have y3 := h.m.hb.sl.one
  have y4 := h.m.hc.sl.one
  have hs' := hs
  unfold szM at hs'
  have hn0' : n0 ≤ H'.n := Nat.le_trans hn0 he.n
  obtain ⟨bv, H1, k1, e1, k2, -⟩ := hW q a b c m' H' (hF.ext he) h.m.s hs hm
  obtain ⟨l1, l2⟩ := Byt.len k2.sl
  have ob := k2.sl.out
  have h1 := h.ext e1
  unfold mV at hL k1
  by_cases hb : bud < ((wrM m').1.length : Int)
  · obtain ⟨v2, H2, k3, e2, k4⟩ := hD c m'.ex true H1 h1.m.hc.sl h1.cc (by omega)
    cases hd1 : drp true m'.ex with
    | some x =>
      rw [hd1] at k4
      obtain ⟨c', rfl, p1, p2, p3⟩ := k4
      have hst : trStep m' = some ⟨m'.h, m'.q, m'.an, m'.au, x⟩ := by simp only [trStep, hd1]
      obtain ⟨t1, t2, t3⟩ := trStep_some hst
      have oc := (Mn.sl p1).out
      have yc := (Mn.sl p1).one
      simp -implicitDefEqProofs only [bU, reduceIte, Nat.reduceEqDiff, reduceCtorEq, implies_true, forall_const, eq_self, Nat.reduceAdd, Nat.reduceLT, bne_self_eq_false, bT, eq_self, true_implies, false_implies, forall_const, if_true, if_false, Int.reduceToNat, Nat.reduceSub, Int.reduceLE, bV, Nat.reduceAdd, Nat.reduceLT, Nat.reduceLeDiff, Nat.reduceLeDiff, q1, q2, q4, hL, o1, o2, o3, o4, y1, y2, y3, y4, k1, ob, l1, l2, hb, k3, oc, yc]
      exact ⟨_, t1, ⟨m'.h, m'.q, m'.an, m'.au, x⟩, q, a, b, c', H2, _, _, rfl, rfl, rfl, h1.setC (Nat.le_trans hn0' e1.n) e2 p1 p2 p3 _, (he.trans e1).trans e2, by omega, t3 hm, trM_step hb hst⟩
    | none =>
      rw [hd1] at k4
      have k4' : v2 = .tp [c, .b false] := k4
      subst k4'
      have h2 := h1.ext e2
      obtain ⟨v3, H3, k5, e3, k6⟩ := hD b m'.au false H2 h2.m.hb.sl h2.cb (by omega)
      cases hd2 : drp false m'.au with
      | some x =>
        rw [hd2] at k6
        obtain ⟨b', rfl, p1, p2, p3⟩ := k6
        have hst : trStep m' = some ⟨tcH m'.h, m'.q, m'.an, x, m'.ex⟩ := by simp only [trStep, hd1, hd2]
        obtain ⟨t1, t2, t3⟩ := trStep_some hst
        have oc := (Mn.sl p1).out
        have yc := (Mn.sl p1).one
        simp -implicitDefEqProofs only [bU, reduceIte, Nat.reduceEqDiff, reduceCtorEq, implies_true, forall_const, eq_self, Nat.reduceAdd, Nat.reduceLT, bne_self_eq_false, bT, eq_self, true_implies, false_implies, forall_const, if_true, if_false, Int.reduceToNat, Nat.reduceSub, Int.reduceLE, bV, Nat.reduceAdd, Nat.reduceLT, Nat.reduceLeDiff, Nat.reduceLeDiff, q1, q2, q4, hL, o1, o2, o3, o4, y1, y2, y3, y4, k1, ob, l1, l2, hb, k3, k5, oc, yc]
        exact ⟨_, t1, ⟨tcH m'.h, m'.q, m'.an, x, m'.ex⟩, q, a, b', c, H3, _, _, rfl, rfl, rfl, h2.setB (by have := e1.n; have := e2.n; omega) e3 p1 p2 p3 _, ((he.trans e1).trans e2).trans e3, by omega, t3 hm, trM_step hb hst⟩
      | none =>
        rw [hd2] at k6
        have k6' : v3 = .tp [b, .b false] := k6
        subst k6'
        have h3 := h2.ext e3
        obtain ⟨v4, H4, k7, e4, k8⟩ := hD a m'.an false H3 h3.m.ha.sl h3.ca (by omega)
        cases hd3 : drp false m'.an with
        | some x =>
          rw [hd3] at k8
          obtain ⟨a', rfl, p1, p2, p3⟩ := k8
          have hst : trStep m' = some ⟨tcH m'.h, m'.q, x, m'.au, m'.ex⟩ := by simp only [trStep, hd1, hd2, hd3]
          obtain ⟨t1, t2, t3⟩ := trStep_some hst
          have oc := (Mn.sl p1).out
          have yc := (Mn.sl p1).one
          simp -implicitDefEqProofs only [bU, reduceIte, Nat.reduceEqDiff, reduceCtorEq, implies_true, forall_const, eq_self, Nat.reduceAdd, Nat.reduceLT, bne_self_eq_false, bT, eq_self, true_implies, false_implies, forall_const, if_true, if_false, Int.reduceToNat, Nat.reduceSub, Int.reduceLE, bV, Nat.reduceAdd, Nat.reduceLT, Nat.reduceLeDiff, Nat.reduceLeDiff, q1, q2, q4, hL, o1, o2, o3, o4, y1, y2, y3, y4, k1, ob, l1, l2, hb, k3, k5, k7, oc, yc]
          exact ⟨_, t1, ⟨tcH m'.h, m'.q, x, m'.au, m'.ex⟩, q, a', b, c, H4, _, _, rfl, rfl, rfl, h3.setA (by have := e1.n; have := e2.n; have := e3.n; omega) e4 p1 p2 p3 _, (((he.trans e1).trans e2).trans e3).trans e4, by omega, t3 hm, trM_step hb hst⟩
        | none =>
          rw [hd3] at k8
          have k8' : v4 = .tp [a, .b false] := k8
          subst k8'
          have hst : trStep m' = none := by simp only [trStep, hd1, hd2, hd3]
          rw [trM_stop hst]
          simp -implicitDefEqProofs only [bU, reduceIte, Nat.reduceEqDiff, reduceCtorEq, implies_true, forall_const, eq_self, Nat.reduceAdd, Nat.reduceLT, bne_self_eq_false, bT, eq_self, true_implies, false_implies, forall_const, if_true, if_false, Int.reduceToNat, Nat.reduceSub, Int.reduceLE, bV, Nat.reduceAdd, Nat.reduceLT, Nat.reduceLeDiff, Nat.reduceLeDiff, q1, q2, q4, hL, o1, o2, o3, o4, y1, y2, y3, y4, k1, ob, l1, l2, hb, k3, k5, k7, endK, rsC, rsV, resV]
          exact ⟨q, a, b, c, rfl, (((he.trans e1).trans e2).trans e3).trans e4, (h3.ext e4).m⟩
  · rw [trM_fit hb]
    simp -implicitDefEqProofs only [bU, reduceIte, Nat.reduceEqDiff, reduceCtorEq, implies_true, forall_const, eq_self, Nat.reduceAdd, Nat.reduceLT, bne_self_eq_false, bT, eq_self, true_implies, false_implies, forall_const, if_true, if_false, Int.reduceToNat, Nat.reduceSub, Int.reduceLE, bV, Nat.reduceAdd, Nat.reduceLT, Nat.reduceLeDiff, Nat.reduceLeDiff, q1, q2, q4, hL, o1, o2, o3, o4, y1, y2, y3, y4, k1, ob, l1, l2, hb, endK, rsC, rsV, resV]
    exact ⟨q, a, b, c, rfl, he.trans e1, h1.m⟩
end
end Go.Vm

/- Printed by wip/tools/tygen.py: runs of what the laws do with questions and records that were marked. -/
namespace Go.Vm
set_option linter.unusedVariables false
set_option linter.unusedSimpArgs false
section
variable {C : Tab}
theorem r_heldQuestionS {a : AV} {k c : Nat} {H : AH} (hM : T_mt C n_laws_markText) (h : Sx H eQ a (mks mk_Question 3 k c)) (hb : k + 3 * c ≤ 1099511627776) : Runs C c_laws_heldQuestionS [a, .i .i64 k] H fun v H' => v = .i .i64 ((k + 3 * c : Nat) : Int) ∧ Ext H H' := by
  unfold Runs c_laws_heldQuestionS
  simp -implicitDefEqProofs only [bU, reduceIte, Nat.reduceEqDiff, reduceCtorEq, implies_true, forall_const, eq_self, Nat.reduceAdd, Nat.reduceLT, bne_self_eq_false, bT, eq_self, true_implies, false_implies, forall_const, if_true, if_false, Int.reduceToNat, Nat.reduceSub, Int.reduceLE]
  refine exec_loop (fun n e M => ∃ (i : Nat) (H' : AH) (L : List Lv) (g : Nat), i ≤ c ∧ n = c - i ∧ look e 0 = a ∧ look e 1 = .i .i64 ((k + 3 * i : Nat) : Int) ∧ look e 5 = .i .i64 i ∧ M = ⟨L, g, H'⟩ ∧ Ext H H') ?_ (n := c) ⟨0, _, _, _, by omega, by omega, rfl, rfl, rfl, rfl, .refl _⟩
  rintro n e M ⟨i, H0, L, g, hi, rfl, q0, q1, q5, rfl, hk⟩
  obtain ⟨l1, l2⟩ := Sx.len (Sl.ext h hk)
  rw [mks_len] at l1
  by_cases hlt : (i : Int) < c
  · have hil : i < (mks mk_Question 3 k c).length := by rw [mks_len]; omega
    have w9 : IntKind.i64.wrap ((i : Int) + 1) = ((i + 1 : Nat) : Int) := by rw [w64 (by omega) (by omega)]; rfl
    obtain ⟨a0, b0, d0, s0, v0⟩ := Sx.fdn (z := 3) (Sl.ext h hk) rfl hil (off := 0) (by decide)
    rw [mks_get] at v0
    have v0' := fun (L : List Lv) (g : Nat) => (v0 L g).trans (show _ = AV.s (mt (k + 3 * i)) from rfl)
    obtain ⟨G0, t0, u0⟩ := hM (k + 3 * i) H0 (by omega)
    have k0 := hk.trans u0
    obtain ⟨a0x, b0x, d0x, s0x, v0x⟩ := Sx.fdn (z := 3) (Sl.ext h k0) rfl hil (off := 0) (by decide)
    rw [mks_get] at v0x
    have v0x' := fun (L : List Lv) (g : Nat) => (v0x L g).trans (show _ = AV.s (mt (k + 3 * i)) from rfl)
    have w0 : IntKind.i64.wrap (((k + 3 * i : Nat) : Int) + 1) = ((k + 3 * i + 1 : Nat) : Int) := by rw [w64 (by omega) (by omega)]; omega
    obtain ⟨a1, b1, d1, s1, v1⟩ := Sx.fdn (z := 3) (Sl.ext h k0) rfl hil (off := 1) (by decide)
    rw [mks_get] at v1
    have v1' := fun (L : List Lv) (g : Nat) => (v1 L g).trans (show _ = AV.i .i64 ((k + 3 * i + 1 : Nat) : Int) from rfl)
    have w1 : IntKind.i64.wrap (((k + 3 * i + 1 : Nat) : Int) + 1) = ((k + 3 * i + 2 : Nat) : Int) := by rw [w64 (by omega) (by omega)]; omega
    obtain ⟨a2, b2, d2, s2, v2⟩ := Sx.fdn (z := 3) (Sl.ext h k0) rfl hil (off := 2) (by decide)
    rw [mks_get] at v2
    have v2' := fun (L : List Lv) (g : Nat) => (v2 L g).trans (show _ = AV.i .i64 ((k + 3 * i + 2 : Nat) : Int) from rfl)
    have w2 : IntKind.i64.wrap (((k + 3 * i + 2 : Nat) : Int) + 1) = ((k + 3 * i + 3 : Nat) : Int) := by rw [w64 (by omega) (by omega)]; omega
    simp -implicitDefEqProofs only [bU, reduceIte, Nat.reduceEqDiff, reduceCtorEq, implies_true, forall_const, eq_self, Nat.reduceAdd, Nat.reduceLT, bne_self_eq_false, bT, eq_self, true_implies, false_implies, forall_const, if_true, if_false, Int.reduceToNat, Nat.reduceSub, Int.reduceLE, lgAt, isRd, q0, q1, q5, l1, l2, hlt, w9, toNat_nat, Bool.false_eq_true, a0, b0, d0, s0, v0', t0, a0x, b0x, d0x, s0x, v0x', w0, a1, b1, d1, s1, v1', w1, a2, b2, d2, s2, v2', w2]
    refine ⟨c - (i + 1), by omega, i + 1, G0, _, _, by omega, rfl, by rw [show k + 3 * (i + 1) = k + 3 * i + 3 by omega], rfl, rfl, k0⟩
  · have hil : i = c := by omega
    subst hil
    simp -implicitDefEqProofs only [bU, reduceIte, Nat.reduceEqDiff, reduceCtorEq, implies_true, forall_const, eq_self, Nat.reduceAdd, Nat.reduceLT, bne_self_eq_false, bT, eq_self, true_implies, false_implies, forall_const, if_true, if_false, Int.reduceToNat, Nat.reduceSub, Int.reduceLE, q0, q1, q5, l1, l2, hlt, endK, rsC, rsV, resV]
    exact hk
theorem r_heldRRS {a : AV} {k c : Nat} {H : AH} (hM : T_mt C n_laws_markText) (h : Sx H eR a (mks mk_RR 5 k c)) (hb : k + 5 * c ≤ 1099511627776) : Runs C c_laws_heldRRS [a, .i .i64 k] H fun v H' => v = .i .i64 ((k + 5 * c : Nat) : Int) ∧ Ext H H' := by
  unfold Runs c_laws_heldRRS
  simp -implicitDefEqProofs only [bU, reduceIte, Nat.reduceEqDiff, reduceCtorEq, implies_true, forall_const, eq_self, Nat.reduceAdd, Nat.reduceLT, bne_self_eq_false, bT, eq_self, true_implies, false_implies, forall_const, if_true, if_false, Int.reduceToNat, Nat.reduceSub, Int.reduceLE]
  refine exec_loop (fun n e M => ∃ (i : Nat) (H' : AH) (L : List Lv) (g : Nat), i ≤ c ∧ n = c - i ∧ look e 0 = a ∧ look e 1 = .i .i64 ((k + 5 * i : Nat) : Int) ∧ look e 5 = .i .i64 i ∧ M = ⟨L, g, H'⟩ ∧ Ext H H') ?_ (n := c) ⟨0, _, _, _, by omega, by omega, rfl, rfl, rfl, rfl, .refl _⟩
  rintro n e M ⟨i, H0, L, g, hi, rfl, q0, q1, q5, rfl, hk⟩
  obtain ⟨l1, l2⟩ := Sx.len (Sl.ext h hk)
  rw [mks_len] at l1
  by_cases hlt : (i : Int) < c
  · have hil : i < (mks mk_RR 5 k c).length := by rw [mks_len]; omega
    have w9 : IntKind.i64.wrap ((i : Int) + 1) = ((i + 1 : Nat) : Int) := by rw [w64 (by omega) (by omega)]; rfl
    obtain ⟨a0, b0, d0, s0, v0⟩ := Sx.fdn (z := 5) (Sl.ext h hk) rfl hil (off := 0) (by decide)
    rw [mks_get] at v0
    have v0' := fun (L : List Lv) (g : Nat) => (v0 L g).trans (show _ = AV.s (mt (k + 5 * i)) from rfl)
    obtain ⟨G0, t0, u0⟩ := hM (k + 5 * i) H0 (by omega)
    have k0 := hk.trans u0
    obtain ⟨a0x, b0x, d0x, s0x, v0x⟩ := Sx.fdn (z := 5) (Sl.ext h k0) rfl hil (off := 0) (by decide)
    rw [mks_get] at v0x
    have v0x' := fun (L : List Lv) (g : Nat) => (v0x L g).trans (show _ = AV.s (mt (k + 5 * i)) from rfl)
    have w0 : IntKind.i64.wrap (((k + 5 * i : Nat) : Int) + 1) = ((k + 5 * i + 1 : Nat) : Int) := by rw [w64 (by omega) (by omega)]; omega
    obtain ⟨a1, b1, d1, s1, v1⟩ := Sx.fdn (z := 5) (Sl.ext h k0) rfl hil (off := 1) (by decide)
    rw [mks_get] at v1
    have v1' := fun (L : List Lv) (g : Nat) => (v1 L g).trans (show _ = AV.i .i64 ((k + 5 * i + 1 : Nat) : Int) from rfl)
    have w1 : IntKind.i64.wrap (((k + 5 * i + 1 : Nat) : Int) + 1) = ((k + 5 * i + 2 : Nat) : Int) := by rw [w64 (by omega) (by omega)]; omega
    obtain ⟨a2, b2, d2, s2, v2⟩ := Sx.fdn (z := 5) (Sl.ext h k0) rfl hil (off := 2) (by decide)
    rw [mks_get] at v2
    have v2' := fun (L : List Lv) (g : Nat) => (v2 L g).trans (show _ = AV.i .i64 ((k + 5 * i + 2 : Nat) : Int) from rfl)
    have w2 : IntKind.i64.wrap (((k + 5 * i + 2 : Nat) : Int) + 1) = ((k + 5 * i + 3 : Nat) : Int) := by rw [w64 (by omega) (by omega)]; omega
    obtain ⟨a3, b3, d3, s3, v3⟩ := Sx.fdn (z := 5) (Sl.ext h k0) rfl hil (off := 3) (by decide)
    rw [mks_get] at v3
    have v3' := fun (L : List Lv) (g : Nat) => (v3 L g).trans (show _ = AV.i .i64 ((k + 5 * i + 3 : Nat) : Int) from rfl)
    have w3 : IntKind.i64.wrap (((k + 5 * i + 3 : Nat) : Int) + 1) = ((k + 5 * i + 4 : Nat) : Int) := by rw [w64 (by omega) (by omega)]; omega
    obtain ⟨a4, b4, d4, s4, v4⟩ := Sx.fdn (z := 5) (Sl.ext h k0) rfl hil (off := 4) (by decide)
    rw [mks_get] at v4
    have v4' := fun (L : List Lv) (g : Nat) => (v4 L g).trans (show _ = AV.s (mt (k + 5 * i + 4)) from rfl)
    obtain ⟨G4, t4, u4⟩ := hM (k + 5 * i + 4) G0 (by omega)
    have k4 := k0.trans u4
    obtain ⟨a4x, b4x, d4x, s4x, v4x⟩ := Sx.fdn (z := 5) (Sl.ext h k4) rfl hil (off := 4) (by decide)
    rw [mks_get] at v4x
    have v4x' := fun (L : List Lv) (g : Nat) => (v4x L g).trans (show _ = AV.s (mt (k + 5 * i + 4)) from rfl)
    have w4 : IntKind.i64.wrap (((k + 5 * i + 4 : Nat) : Int) + 1) = ((k + 5 * i + 5 : Nat) : Int) := by rw [w64 (by omega) (by omega)]; omega
    simp -implicitDefEqProofs only [bU, reduceIte, Nat.reduceEqDiff, reduceCtorEq, implies_true, forall_const, eq_self, Nat.reduceAdd, Nat.reduceLT, bne_self_eq_false, bT, eq_self, true_implies, false_implies, forall_const, if_true, if_false, Int.reduceToNat, Nat.reduceSub, Int.reduceLE, lgAt, isRd, q0, q1, q5, l1, l2, hlt, w9, toNat_nat, Bool.false_eq_true, a0, b0, d0, s0, v0', t0, a0x, b0x, d0x, s0x, v0x', w0, a1, b1, d1, s1, v1', w1, a2, b2, d2, s2, v2', w2, a3, b3, d3, s3, v3', w3, a4, b4, d4, s4, v4', t4, a4x, b4x, d4x, s4x, v4x', w4]
    refine ⟨c - (i + 1), by omega, i + 1, G4, _, _, by omega, rfl, by rw [show k + 5 * (i + 1) = k + 5 * i + 5 by omega], rfl, rfl, k4⟩
  · have hil : i = c := by omega
    subst hil
    simp -implicitDefEqProofs only [bU, reduceIte, Nat.reduceEqDiff, reduceCtorEq, implies_true, forall_const, eq_self, Nat.reduceAdd, Nat.reduceLT, bne_self_eq_false, bT, eq_self, true_implies, false_implies, forall_const, if_true, if_false, Int.reduceToNat, Nat.reduceSub, Int.reduceLE, q0, q1, q5, l1, l2, hlt, endK, rsC, rsV, resV]
    exact hk
end
end Go.Vm

/- Messages cut to a budget: both sides, and the law's run. -/
namespace Go.Vm
set_option linter.unusedVariables false
set_option linter.unusedSimpArgs false
def msg0 : Msg := ⟨hd0, [], [], [], []⟩
def trR (b : Int) (m : Msg) : Msg × Int := if msgOk m = true then (trM b m, 0) else (msg0, 32)
theorem trM_sz : ∀ (k : Nat) (b : Int) (m : Msg), cntM m ≤ k → szM (trM b m) ≤ szM m
  | k, b, m, hk => by
    rw [trM]
    split
    · split
      · rename_i m' h
        obtain ⟨a, c, -⟩ := trStep_some h
        match k with
        | 0 => omega
        | k + 1 => exact Nat.le_trans (trM_sz k b m' (by omega)) c
      · exact Nat.le_refl _
    · exact Nat.le_refl _
theorem trR_sz {b : Int} {m : Msg} (h : szM m ≤ 1048576) : szM (trR b m).1 ≤ 1048576 := by
  unfold trR
  split
  · exact Nat.le_trans (trM_sz _ b m (Nat.le_refl _)) h
  · simp [msg0, szM, tot']
def T_Trunc (C : Tab) (f : Nat) : Prop := ∀ (q a b c : AV) (m : Msg) (bud : Int) (H : AH), FormsOK H → MsgS H q a b c m → szM m ≤ 1048576 → ∃ v H', C f [mV m.h q a b c, .i .i64 bud] H = some (v, H') ∧ ∃ q' a' b' c', v = .tp [mV (trR bud m).1.h q' a' b' c', .i .i64 (trR bud m).2] ∧ Ext H H' ∧ MsgM H' H.n q' a' b' c' (trR bud m).1
def T_heldMessage (C : Tab) (f : Nat) : Prop := ∀ (q a b c : AV) (m : Msg) (k : Nat) (H : AH), MsgS H q a b c (mkM k m) → mkN k m ≤ 1099511627776 → ∃ v H', C f [mV m.h q a b c, .i .i64 k] H = some (v, H') ∧ v = .i .i64 (mkN k m) ∧ Ext H H'
theorem MsgM.lt {H : AH} {q a b c : AV} {m : Msg} {n0 : Nat} (h : MsgM H n0 q a b c m) : ∀ i, i ∈ idA q ++ idA a ++ idA b ++ idA c → i < H.n := fun i hi => by
  simp only [List.mem_append] at hi
  rcases hi with ((hi | hi) | hi) | hi
  · exact Mn.lt h.hq i hi
  · exact Mn.lt h.ha i hi
  · exact Mn.lt h.hb i hi
  · exact Mn.lt h.hc i hi
theorem MsgM.mono {H : AH} {n0 n1 : Nat} {q a b c : AV} {m : Msg} (h : MsgM H n0 q a b c m) (hn : n1 ≤ n0) : MsgM H n1 q a b c m :=
  ⟨h.hq, h.ha, h.hb, h.hc, h.qa, h.qb, h.qc, h.ab, h.ac, h.bc, fun i hi => Nat.le_trans hn (h.ge i hi)⟩
theorem MsgM.nil (H : AH) (n0 : Nat) : MsgM H n0 .ns .ns .ns .ns msg0 := ⟨.nil, .nil, .nil, .nil, fun i hi => by simp [idA] at hi, fun i hi => by simp [idA] at hi, fun i hi => by simp [idA] at hi, fun i hi => by simp [idA] at hi, fun i hi => by simp [idA] at hi, fun i hi => by simp [idA] at hi, fun i hi => by simp [idA] at hi⟩
theorem MsgM.kp {H H' : AH} {ids : List Nat} {n0 : Nat} {q a b c : AV} {m : Msg} (h : MsgM H n0 q a b c m) (hk : Kp ids H H') (hd : ∀ i, i ∈ idA q ++ idA a ++ idA b ++ idA c → ¬ i ∈ ids) : MsgM H' n0 q a b c m :=
  ⟨hk.mn h.hq fun i hi => hd i (by simp [hi]), hk.mn h.ha fun i hi => hd i (by simp [hi]), hk.mn h.hb fun i hi => hd i (by simp [hi]), hk.mn h.hc fun i hi => hd i (by simp [hi]), h.qa, h.qb, h.qc, h.ab, h.ac, h.bc, h.ge⟩
section
variable {C : Tab}
theorem r_TruncS {q a b c : AV} {m : Msg} {bud : Int} {H : AH} (hV : T_validS C n_spec_l04Valid) (hCp : T_copyM C n_spec_l13CopyMessage) (hT : T_truncB C n_spec_l13Truncate) (hF : FormsOK H) (h : MsgS H q a b c m) (hs : szM m ≤ 1048576) :
    Runs C c_spec_Truncate [mV m.h q a b c, .i .i64 bud] H fun v H' => ∃ q' a' b' c', v = .tp [mV (trR bud m).1.h q' a' b' c', .i .i64 (trR bud m).2] ∧ Ext H H' ∧ MsgM H' H.n q' a' b' c' (trR bud m).1 := by
  unfold Runs c_spec_Truncate
  obtain ⟨v1, H1, k1, rfl, e1⟩ := hV q a b c m H h hs
  have o1 := h.hq.out
  have o2 := h.ha.out
  have o3 := h.hb.out
  have o4 := h.hc.out
  have y1 := h.hq.one
  have y2 := h.ha.one
  have y3 := h.hb.one
  have y4 := h.hc.one
  unfold trR
  cases hm : msgOk m with
  | false =>
    rw [hm] at k1
    unfold mV at k1 ⊢
    simp -implicitDefEqProofs only [bU, reduceIte, Nat.reduceEqDiff, reduceCtorEq, implies_true, forall_const, eq_self, Nat.reduceAdd, Nat.reduceLT, bne_self_eq_false, bT, eq_self, true_implies, false_implies, forall_const, if_true, if_false, Int.reduceToNat, Nat.reduceSub, Int.reduceLE, bV, Nat.reduceAdd, Nat.reduceLT, Nat.reduceLeDiff, Nat.reduceLeDiff, o1, o2, o3, o4, y1, y2, y3, y4, k1, endK, rsC, rsV, resV]
    exact ⟨.ns, .ns, .ns, .ns, rfl, e1, .nil _ _⟩
  | true =>
    rw [hm] at k1
    obtain ⟨v2, H2, k2, q2, a2, b2, c2, rfl, e2, m2⟩ := hCp q a b c m H1 (h.ext e1) hs
    obtain ⟨v3, H3, k3, q3, a3, b3, c3, rfl, e3, m3⟩ := hT q2 a2 b2 c2 m bud H1.n H2 (hF.ext (e1.trans e2)) m2 e2.n hs hm
    have x1 := m2.m.hq.sl.out
    have x2 := m2.m.ha.sl.out
    have x3 := m2.m.hb.sl.out
    have x4 := m2.m.hc.sl.out
    have z1 := m3.hq.sl.out
    have z2 := m3.ha.sl.out
    have z3 := m3.hb.sl.out
    have z4 := m3.hc.sl.out
    have z5 := m3.hq.sl.one
    have z6 := m3.ha.sl.one
    have z7 := m3.hb.sl.one
    have z8 := m3.hc.sl.one
    have m3' := m3.mono e1.n
    generalize trM bud m = r at *
    unfold mV at k1 k2 k3 ⊢
    simp -implicitDefEqProofs only [bU, reduceIte, Nat.reduceEqDiff, reduceCtorEq, implies_true, forall_const, eq_self, Nat.reduceAdd, Nat.reduceLT, bne_self_eq_false, bT, eq_self, true_implies, false_implies, forall_const, if_true, if_false, Int.reduceToNat, Nat.reduceSub, Int.reduceLE, bV, Nat.reduceAdd, Nat.reduceLT, Nat.reduceLeDiff, Nat.reduceLeDiff, o1, o2, o3, o4, y1, y2, y3, y4, k1, x1, x2, x3, x4, k2, k3, z1, z2, z3, z4, z5, z6, z7, z8, endK, rsC, rsV, resV]
    exact ⟨q3, a3, b3, c3, rfl, (e1.trans e2).trans e3, m3'⟩
set_option maxHeartbeats 2000000 in
theorem r_TruncI {q a b c : AV} {m : Msg} {bud : Int} {H : AH} (hV : T_validI C n_impl_validMessage) (hCp : T_copyM C n_impl_copyMessage) (hW : T_write C n_impl_encoded) (hD : T_drop C n_impl_dropRun) (hF : FormsOK H) (h : MsgS H q a b c m) (hs : szM m ≤ 1048576) :
    Runs C c_impl_Truncate [mV m.h q a b c, .i .i64 bud] H fun v H' => ∃ q' a' b' c', v = .tp [mV (trR bud m).1.h q' a' b' c', .i .i64 (trR bud m).2] ∧ Ext H H' ∧ MsgM H' H.n q' a' b' c' (trR bud m).1 := by
  unfold Runs c_impl_Truncate
  obtain ⟨v1, H1, k1, rfl, e1⟩ := hV q a b c m H hF h hs
  have o1 := h.hq.out
  have o2 := h.ha.out
  have o3 := h.hb.out
  have o4 := h.hc.out
  have y1 := h.hq.one
  have y2 := h.ha.one
  have y3 := h.hb.one
  have y4 := h.hc.one
  unfold trR
  cases hm : msgOk m with
  | false =>
    rw [hm] at k1
    unfold mV at k1 ⊢
    simp -implicitDefEqProofs only [bU, reduceIte, Nat.reduceEqDiff, reduceCtorEq, implies_true, forall_const, eq_self, Nat.reduceAdd, Nat.reduceLT, bne_self_eq_false, bT, eq_self, true_implies, false_implies, forall_const, if_true, if_false, Int.reduceToNat, Nat.reduceSub, Int.reduceLE, bV, Nat.reduceAdd, Nat.reduceLT, Nat.reduceLeDiff, Nat.reduceLeDiff, o1, o2, o3, o4, y1, y2, y3, y4, k1, endK, rsC, rsV, resV]
    exact ⟨.ns, .ns, .ns, .ns, rfl, e1, .nil _ _⟩
  | true =>
    rw [hm] at k1
    simp only [if_true]
    obtain ⟨v2, H2, k2, q2, a2, b2, c2, rfl, e2, m2⟩ := hCp q a b c m H1 (h.ext e1) hs
    have x1 := m2.m.hq.sl.out
    have x2 := m2.m.ha.sl.out
    have x3 := m2.m.hb.sl.out
    have x4 := m2.m.hc.sl.out
    have z5 := m2.m.hq.sl.one
    have z6 := m2.m.ha.sl.one
    have z7 := m2.m.hb.sl.one
    have z8 := m2.m.hc.sl.one
    have e02 := e1.trans e2
    have hk1 := k1
    unfold mV at hk1 k2 ⊢
    simp -implicitDefEqProofs only [bU, reduceIte, Nat.reduceEqDiff, reduceCtorEq, implies_true, forall_const, eq_self, Nat.reduceAdd, Nat.reduceLT, bne_self_eq_false, bT, eq_self, true_implies, false_implies, forall_const, if_true, if_false, Int.reduceToNat, Nat.reduceSub, Int.reduceLE, bV, Nat.reduceAdd, Nat.reduceLT, Nat.reduceLeDiff, Nat.reduceLeDiff, o1, o2, o3, o4, y1, y2, y3, y4, hk1, k2, x1, x2, x3, x4, z5, z6, z7, z8]
    refine exec_loop (fun n e M => ∃ (m' : Msg) (q a b c : AV) (H' : AH) (L : List Lv) (g : Nat), n = cntM m' ∧ look e 1 = .i .i64 bud ∧ look e 2 = .la 2 0 0 0 ∧ look e 4 = .la 4 1 0 0 ∧ M = ⟨L, g, H'⟩ ∧ keepL [1, 2, 4] L = [⟨4, 1, 0, [z15]⟩, ⟨2, 0, 0, [mV m'.h q a b c]⟩] ∧ MsgC H' H1.n q a b c m' ∧ Ext H H' ∧ H1.n ≤ H'.n ∧ szM m' ≤ 1048576 ∧ msgOk m' = true ∧ trM bud m = trM bud m') ?_ (n := cntM m)
      ⟨m, q2, a2, b2, c2, H2, _, _, rfl, rfl, rfl, rfl, rfl, rfl, m2, e02, e2.n, hs, hm, rfl⟩
    clear h hs hm m2 x1 x2 x3 x4 z5 z6 z7 z8 o1 o2 o3 o4 y1 y2 y3 y4 k1 k2 hk1 e2 e02
    rintro n e M ⟨m', q, a, b, c, H', L, g, rfl, q1, q2, q4, rfl, hL, h, he, hn0', hs, hm, htr⟩
    rw [htr]
    have o1 := h.m.hq.sl.out
    have o2 := h.m.ha.sl.out
    have o3 := h.m.hb.sl.out
    have o4 := h.m.hc.sl.out
    have y1 := h.m.hq.sl.one
    have y2 := h.m.ha.sl.one
    have y3 := h.m.hb.sl.one
    have y4 := h.m.hc.sl.one
    have hs' := hs
    unfold szM at hs'
    obtain ⟨bv, G1, k1, f1, k2, -⟩ := hW q a b c m' H' (hF.ext he) h.m.s hs hm
    obtain ⟨l1, l2⟩ := Byt.len k2.sl
    have ob := k2.sl.out
    have h1 := h.ext f1
    unfold mV at hL k1
    by_cases hb : bud < ((wrM m').1.length : Int)
    · obtain ⟨v2, G2, k3, f2, k4⟩ := hD c m'.ex true G1 h1.m.hc.sl h1.cc (by omega)
      cases hd1 : drp true m'.ex with
      | some x =>
        rw [hd1] at k4
        obtain ⟨c', rfl, p1, p2, p3⟩ := k4
        have hst : trStep m' = some ⟨m'.h, m'.q, m'.an, m'.au, x⟩ := by simp only [trStep, hd1]
        obtain ⟨t1, t2, t3⟩ := trStep_some hst
        have oc := (Mn.sl p1).out
        have yc := (Mn.sl p1).one
        simp -implicitDefEqProofs only [bU, reduceIte, Nat.reduceEqDiff, reduceCtorEq, implies_true, forall_const, eq_self, Nat.reduceAdd, Nat.reduceLT, bne_self_eq_false, bT, eq_self, true_implies, false_implies, forall_const, if_true, if_false, Int.reduceToNat, Nat.reduceSub, Int.reduceLE, bV, Nat.reduceAdd, Nat.reduceLT, Nat.reduceLeDiff, Nat.reduceLeDiff, q1, q2, q4, hL, o1, o2, o3, o4, y1, y2, y3, y4, k1, ob, l1, l2, hb, k3, oc, yc]
        exact ⟨_, t1, ⟨m'.h, m'.q, m'.an, m'.au, x⟩, q, a, b, c', G2, _, _, rfl, rfl, rfl, h1.setC (Nat.le_trans hn0' f1.n) f2 p1 p2 p3 _, (he.trans f1).trans f2, by have := f1.n; have := f2.n; omega, by omega, t3 hm, trM_step hb hst⟩
      | none =>
        rw [hd1] at k4
        have k4' : v2 = .tp [c, .b false] := k4
        subst k4'
        have h2 := h1.ext f2
        obtain ⟨v3, G3, k5, f3, k6⟩ := hD b m'.au false G2 h2.m.hb.sl h2.cb (by omega)
        cases hd2 : drp false m'.au with
        | some x =>
          rw [hd2] at k6
          obtain ⟨b', rfl, p1, p2, p3⟩ := k6
          have hst : trStep m' = some ⟨tcH m'.h, m'.q, m'.an, x, m'.ex⟩ := by simp only [trStep, hd1, hd2]
          obtain ⟨t1, t2, t3⟩ := trStep_some hst
          have oc := (Mn.sl p1).out
          have yc := (Mn.sl p1).one
          simp -implicitDefEqProofs only [bU, reduceIte, Nat.reduceEqDiff, reduceCtorEq, implies_true, forall_const, eq_self, Nat.reduceAdd, Nat.reduceLT, bne_self_eq_false, bT, eq_self, true_implies, false_implies, forall_const, if_true, if_false, Int.reduceToNat, Nat.reduceSub, Int.reduceLE, bV, Nat.reduceAdd, Nat.reduceLT, Nat.reduceLeDiff, Nat.reduceLeDiff, q1, q2, q4, hL, o1, o2, o3, o4, y1, y2, y3, y4, k1, ob, l1, l2, hb, k3, k5, oc, yc]
          exact ⟨_, t1, ⟨tcH m'.h, m'.q, m'.an, x, m'.ex⟩, q, a, b', c, G3, _, _, rfl, rfl, rfl, h2.setB (by have := f1.n; have := f2.n; omega) f3 p1 p2 p3 _, ((he.trans f1).trans f2).trans f3, by have := f1.n; have := f2.n; have := f3.n; omega, by omega, t3 hm, trM_step hb hst⟩
        | none =>
          rw [hd2] at k6
          have k6' : v3 = .tp [b, .b false] := k6
          subst k6'
          have h3 := h2.ext f3
          obtain ⟨v4, G4, k7, f4, k8⟩ := hD a m'.an false G3 h3.m.ha.sl h3.ca (by omega)
          cases hd3 : drp false m'.an with
          | some x =>
            rw [hd3] at k8
            obtain ⟨a', rfl, p1, p2, p3⟩ := k8
            have hst : trStep m' = some ⟨tcH m'.h, m'.q, x, m'.au, m'.ex⟩ := by simp only [trStep, hd1, hd2, hd3]
            obtain ⟨t1, t2, t3⟩ := trStep_some hst
            have oc := (Mn.sl p1).out
            have yc := (Mn.sl p1).one
            simp -implicitDefEqProofs only [bU, reduceIte, Nat.reduceEqDiff, reduceCtorEq, implies_true, forall_const, eq_self, Nat.reduceAdd, Nat.reduceLT, bne_self_eq_false, bT, eq_self, true_implies, false_implies, forall_const, if_true, if_false, Int.reduceToNat, Nat.reduceSub, Int.reduceLE, bV, Nat.reduceAdd, Nat.reduceLT, Nat.reduceLeDiff, Nat.reduceLeDiff, q1, q2, q4, hL, o1, o2, o3, o4, y1, y2, y3, y4, k1, ob, l1, l2, hb, k3, k5, k7, oc, yc]
            exact ⟨_, t1, ⟨tcH m'.h, m'.q, x, m'.au, m'.ex⟩, q, a', b, c, G4, _, _, rfl, rfl, rfl, h3.setA (by have := f1.n; have := f2.n; have := f3.n; omega) f4 p1 p2 p3 _, (((he.trans f1).trans f2).trans f3).trans f4, by have := f1.n; have := f2.n; have := f3.n; have := f4.n; omega, by omega, t3 hm, trM_step hb hst⟩
          | none =>
            rw [hd3] at k8
            have k8' : v4 = .tp [a, .b false] := k8
            subst k8'
            have hst : trStep m' = none := by simp only [trStep, hd1, hd2, hd3]
            rw [trM_stop hst]
            simp -implicitDefEqProofs only [bU, reduceIte, Nat.reduceEqDiff, reduceCtorEq, implies_true, forall_const, eq_self, Nat.reduceAdd, Nat.reduceLT, bne_self_eq_false, bT, eq_self, true_implies, false_implies, forall_const, if_true, if_false, Int.reduceToNat, Nat.reduceSub, Int.reduceLE, bV, Nat.reduceAdd, Nat.reduceLT, Nat.reduceLeDiff, Nat.reduceLeDiff, q1, q2, q4, hL, o1, o2, o3, o4, y1, y2, y3, y4, k1, ob, l1, l2, hb, k3, k5, k7, endK, rsC, rsV, resV]
            exact ⟨q, a, b, c, rfl, (((he.trans f1).trans f2).trans f3).trans f4, (h3.ext f4).m.mono e1.n⟩
    · rw [trM_fit hb]
      simp -implicitDefEqProofs only [bU, reduceIte, Nat.reduceEqDiff, reduceCtorEq, implies_true, forall_const, eq_self, Nat.reduceAdd, Nat.reduceLT, bne_self_eq_false, bT, eq_self, true_implies, false_implies, forall_const, if_true, if_false, Int.reduceToNat, Nat.reduceSub, Int.reduceLE, bV, Nat.reduceAdd, Nat.reduceLT, Nat.reduceLeDiff, Nat.reduceLeDiff, q1, q2, q4, hL, o1, o2, o3, o4, y1, y2, y3, y4, k1, ob, l1, l2, hb, endK, rsC, rsV, resV]
      exact ⟨q, a, b, c, rfl, he.trans f1, h1.m.mono e1.n⟩
theorem r_heldMessage {q a b c : AV} {m : Msg} {k : Nat} {H : AH} (hQ : T_heldS C n_laws_heldQuestionS eQ mk_Question 3) (hR : T_heldS C n_laws_heldRRS eR mk_RR 5) (h : MsgS H q a b c (mkM k m)) (hs : mkN k m ≤ 1099511627776) :
    Runs C c_laws_heldMessage [mV m.h q a b c, .i .i64 k] H fun v H' => v = .i .i64 (mkN k m) ∧ Ext H H' := by
  unfold mkN at hs
  obtain ⟨v1, H1, k1, rfl, e1⟩ := hQ q k m.q.length H h.hq (by omega)
  obtain ⟨v2, H2, k2, rfl, e2⟩ := hR a (k + 3 * m.q.length) m.an.length H1 (Sl.ext h.ha e1) (by omega)
  obtain ⟨v3, H3, k3, rfl, e3⟩ := hR b (k + 3 * m.q.length + 5 * m.an.length) m.au.length H2 (Sl.ext h.hb (e1.trans e2)) (by omega)
  obtain ⟨v4, H4, k4, rfl, e4⟩ := hR c (k + 3 * m.q.length + 5 * m.an.length + 5 * m.au.length) m.ex.length H3 (Sl.ext h.hc ((e1.trans e2).trans e3)) (by omega)
  have o1 := h.hq.out
  have o2 := h.ha.out
  have o3 := h.hb.out
  have o4 := h.hc.out
  have n1 : ¬ ((k + 3 * m.q.length : Nat) : Int) < 0 := by omega
  have n2 : ¬ ((k + 3 * m.q.length + 5 * m.an.length : Nat) : Int) < 0 := by omega
  have n3 : ¬ ((k + 3 * m.q.length + 5 * m.an.length + 5 * m.au.length : Nat) : Int) < 0 := by omega
  have n4 : ¬ ((k + 3 * m.q.length + 5 * m.an.length + 5 * m.au.length + 5 * m.ex.length : Nat) : Int) < 0 := by omega
  unfold Runs c_laws_heldMessage mV
  simp -implicitDefEqProofs only [bU, reduceIte, Nat.reduceEqDiff, reduceCtorEq, implies_true, forall_const, eq_self, Nat.reduceAdd, Nat.reduceLT, bne_self_eq_false, bT, eq_self, true_implies, false_implies, forall_const, if_true, if_false, Int.reduceToNat, Nat.reduceSub, Int.reduceLE, bV, Nat.reduceAdd, Nat.reduceLT, Nat.reduceLeDiff, Nat.reduceLeDiff, o1, o2, o3, o4, k1, k2, k3, k4, n1, n2, n3, n4, endK, rsC, rsV, resV]
  exact ⟨rfl, ((e1.trans e2).trans e3).trans e4⟩
end
end Go.Vm

/- Truncate: the law's run. -/
namespace Go.Vm
set_option linter.unusedVariables false
set_option linter.unusedSimpArgs false
section
variable {C : Tab}
set_option maxHeartbeats 2000000 in
set_option maxRecDepth 100000 in
theorem r_law_Truncate {q a b c : AV} {m : Msg} {bud : Int} {H : AH} (hS : T_szMessage C n_laws_szMessage) (hT : T_toMessage C n_laws_toMessage) (hQ : T_eqMessage C n_laws_eqMessage) (hM : T_markMessage C n_laws_markMessage) (hL : T_heldMessage C n_laws_heldMessage)
    (h6 : T_Trunc C n_spec_Truncate) (h8 : T_Trunc C n_impl_Truncate) (hF : FormsOK H) (h : MsgS H q a b c m) (hp : preM m) : Runs C c_laws_FnExactTruncate [mV m.h q a b c, .i .i64 bud] H fun v _ => v = .b true := by
  unfold Runs c_laws_FnExactTruncate
  have o1 := h.hq.out
  have o2 := h.ha.out
  have o3 := h.hb.out
  have o4 := h.hc.out
  have j1 := h.hq.one
  have j2 := h.ha.one
  have j3 := h.hb.one
  have j4 := h.hc.one
  have k1 := hS q a b c m 1048576 H h hp (by omega) (by omega)
  by_cases hlt : (1048576 : Int) - szM m < 0
  · rw [if_pos hlt] at k1
    simp only [mV] at k1 ⊢
    simp -implicitDefEqProofs only [bU, reduceIte, Nat.reduceEqDiff, reduceCtorEq, implies_true, forall_const, eq_self, Nat.reduceAdd, Nat.reduceLT, bne_self_eq_false, bT, eq_self, true_implies, false_implies, forall_const, if_true, if_false, Int.reduceToNat, Nat.reduceSub, Int.reduceLE, bV, Nat.reduceAdd, Nat.reduceLT, Nat.reduceLeDiff, Nat.reduceLeDiff, o1, o2, o3, o4, k1, Int.reduceNeg, Int.reduceLT, endK, rsC, rsV, resV]
  rw [if_neg hlt] at k1
  have hs : szM m ≤ 1048576 := by omega
  have hsr := trR_sz (b := bud) hs
  obtain ⟨v1, H1, k2, q1, a1, b1, c1, rfl, e1, m1⟩ := hT q a b c m H h hs
  obtain ⟨v2, H2, k3, wq, wa, wb, wc, rfl, e2, w2⟩ := h6 q1 a1 b1 c1 m bud H1 (hF.ext e1) m1.s hs
  have f2 := e1.trans e2
  obtain ⟨v3, H3, k4, q3, a3, b3, c3, rfl, e3, m3⟩ := hT q a b c m H2 (h.ext f2) hs
  have f3 := f2.trans e3
  obtain ⟨v4, H4, k5, gq, ga, gb, gc, rfl, e4, g4⟩ := h8 q3 a3 b3 c3 m bud H3 (hF.ext f3) m3.s hs
  have f4 := f3.trans e4
  have w4 := w2.ext (e3.trans e4)
  have k6 := hQ gq ga gb gc wq wa wb wc (trR bud m).1 H4 g4.s w4.s hsr
  obtain ⟨v5, H5, k7, q5, a5, b5, c5, rfl, e5, m5⟩ := hT q a b c m H4 (h.ext f4) hs
  have f5 := f4.trans e5
  have m35 := m3.ext (e4.trans e5)
  have k8 := hQ q3 a3 b3 c3 q5 a5 b5 c5 m H5 m35.s m5.s hs
  have hmk : mkN 1 m ≤ 1099511627776 := by unfold mkN; unfold szM at hs; omega
  have hmr : mkN 1 (trR bud m).1 ≤ 1099511627776 := by unfold mkN; unfold szM at hsr; omega
  obtain ⟨v6, H6, k9, rfl, m6, p6⟩ := hM q3 a3 b3 c3 m 1 H2.n H5 m35 hmk
  have hk0 : ¬ ((mkN 1 m : Nat) : Int) < 0 := by omega
  have f6 : Ext H H6 := f5.put (fun i hi => Nat.le_trans f2.n (m3.ge i hi)) p6.n p6.at'
  have w6 := (w4.ext e5).kp p6 fun i hi hm => by
    have := w2.lt i hi
    have := m3.ge i hm
    omega
  have g6 := (g4.ext e5).kp p6 fun i hi hm => by
    have := g4.ge i hi
    have := m3.lt i hm
    omega
  have k10 := hQ gq ga gb gc wq wa wb wc (trR bud m).1 H6 g6.s w6.s hsr
  obtain ⟨v7, H7, k11, rfl, g7, p7⟩ := hM gq ga gb gc (trR bud m).1 1 H3.n H6 g6 hmr
  have w7 := w6.kp p7 fun i hi hm => by
    have := w2.lt i hi
    have := g4.ge i hm
    have := e3.n
    omega
  have f7 : Ext H H7 := f6.put (fun i hi => Nat.le_trans f3.n (g4.ge i hi)) p7.n p7.at'
  obtain ⟨v8, H8, k12, rfl, e8⟩ := hL gq ga gb gc (trR bud m).1 1 H7 g7.s hmr
  have hk1 : ¬ ((mkN 1 (trR bud m).1 : Nat) : Int) < 0 := by omega
  have f8 := f7.trans e8
  obtain ⟨v9, H9, k13, q9, a9, b9, c9, rfl, e9, m9⟩ := hT q a b c m H8 (h.ext f8) hs
  obtain ⟨v10, H10, k14, gq', ga', gb', gc', rfl, e10, g10⟩ := h8 q9 a9 b9 c9 m bud H9 (hF.ext (f8.trans e9)) m9.s hs
  have w10 := w7.ext ((e8.trans e9).trans e10)
  have k15 := hQ gq' ga' gb' gc' wq wa wb wc (trR bud m).1 H10 g10.s w10.s hsr
  obtain ⟨v11, H11, k16, rfl, e11⟩ := hL gq ga gb gc (trR bud m).1 1 H10 (g7.ext ((e8.trans e9).trans e10)).s hmr
  have x1 := g4.hq.sl.out
  have x2 := g4.ha.sl.out
  have x3 := g4.hb.sl.out
  have x4 := g4.hc.sl.out
  have x5 := g4.hq.sl.one
  have x6 := g4.ha.sl.one
  have x7 := g4.hb.sl.one
  have x8 := g4.hc.sl.one
  have u1 := w2.hq.sl.out
  have u2 := w2.ha.sl.out
  have u3 := w2.hb.sl.out
  have u4 := w2.hc.sl.out
  have u5 := w2.hq.sl.one
  have u6 := w2.ha.sl.one
  have u7 := w2.hb.sl.one
  have u8 := w2.hc.sl.one
  have t1 := g10.hq.sl.out
  have t2 := g10.ha.sl.out
  have t3 := g10.hb.sl.out
  have t4 := g10.hc.sl.out
  have t5 := g10.hq.sl.one
  have t6 := g10.ha.sl.one
  have t7 := g10.hb.sl.one
  have t8 := g10.hc.sl.one
  have y1 := m3.hq.sl.out
  have y2 := m3.ha.sl.out
  have y3 := m3.hb.sl.out
  have y4 := m3.hc.sl.out
  have y5 := m3.hq.sl.one
  have y6 := m3.ha.sl.one
  have y7 := m3.hb.sl.one
  have y8 := m3.hc.sl.one
  have z1 := m5.hq.sl.out
  have z2 := m5.ha.sl.out
  have z3 := m5.hb.sl.out
  have z4 := m5.hc.sl.out
  have s1 := m1.hq.sl.out
  have s2 := m1.ha.sl.out
  have s3 := m1.hb.sl.out
  have s4 := m1.hc.sl.out
  have r1 := m9.hq.sl.out
  have r2 := m9.ha.sl.out
  have r3 := m9.hb.sl.out
  have r4 := m9.hc.sl.out
  clear hS hT hQ hM hL h6 h8 h hp m1 m3 m5 m6 m9 m35 p6 p7 e1 e2 e3 e4 e5 e8 e9 e10 e11 f2 f3 f4 f5 f6 f7 f8 w2 w4 w6 w7 w10 g4 g6 g7 g10 hmk hmr hsr hF
  generalize trR bud m = r at *
  generalize ((mkN 1 r.1 : Nat) : Int) = n2 at *
  generalize ((mkN 1 m : Nat) : Int) = n1 at *
  have c1' : ((1 : Nat) : Int) = 1 := rfl
  simp only [mV, c1'] at k1 k2 k3 k4 k5 k6 k7 k8 k9 k10 k11 k12 k13 k14 k15 k16 ⊢
  simp -implicitDefEqProofs only [bU, reduceIte, Nat.reduceEqDiff, reduceCtorEq, implies_true, forall_const, eq_self, Nat.reduceAdd, Nat.reduceLT, bne_self_eq_false, bT, eq_self, true_implies, false_implies, forall_const, if_true, if_false, Int.reduceToNat, Nat.reduceSub, Int.reduceLE, bV, Nat.reduceAdd, Nat.reduceLT, Nat.reduceLeDiff, Nat.reduceLeDiff, lgAt, isRd, o1, o2, o3, o4, j1, j2, j3, j4, x1, x2, x3, x4, x5, x6, x7, x8, u1, u2, u3, u4, u5, u6, u7, u8, t1, t2, t3, t4, t5, t6, t7, t8, y1, y2, y3, y4, y5, y6, y7, y8, z1, z2, z3, z4, s1, s2, s3, s4, r1, r2, r3, r4, hlt, hk0, hk1, k1, k2, k3, k4, k5, k6, k7, k8, k9, k10, k11, k12, k13, k14, k15, k16, endK, rsC, rsV, resV]
end
end Go.Vm
