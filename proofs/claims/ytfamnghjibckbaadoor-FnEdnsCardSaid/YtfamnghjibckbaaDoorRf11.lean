import Derived.Test.YtfamnghjibckbaaDoorRf10
import Derived.Test.YtfamnghjibckbaaDoorRf4
import Derived.Test.YtfamnghjibckbaaDoorRf7
import Derived.Test.YtfamnghjibckbaaDoorRows
import Derived.ProofKit
import Derived.Test.YtfamnghjibckbaaDoorCards
import Derived.Test.YtfamnghjibckbaaDoorTie
import Derived.JoinedCond
/- The law of the senders' records returns true: the table of its functions. -/
namespace Go.Vm
set_option linter.unusedVariables false
set_option linter.unusedSimpArgs false
theorem ext_at {C : Tab} {f g : Nat} {m : List AV → AH → Option (AV × AH)} (h : g ≠ f) : ext C f m g = C g := by funext vs H; exact ext_old h
/-- What a settled writer gives. -/
theorem encS {C T : Tab} {F : Fn} {f : Nat} {vs : List AV} {r : Rr} {H : AH} (h : Runs C F vs H (Enc1Post r H)) : ∃ v H', ext T f (entS C F) f vs H = some (v, H') ∧ EncSPost r H v H' := by
  obtain ⟨v, H1, H', k, ⟨e1, p⟩, q⟩ := entS_spec (T := T) (f := f) h
  refine ⟨v, H', k, ?_⟩
  have hlen : 12 ≤ (hdr1 ++ recB r).length := by simp [hdr1]
  by_cases hl : (hdr1 ++ recB r).length > 65535
  · rw [if_pos hl] at p
    subst p
    rcases q with ⟨⟨id, n, k', c, rw, st, z, xs, e, -⟩, -⟩ | ⟨rfl, -⟩
    · simp at e
    · exact ⟨e1, by rw [if_pos hl]⟩
  · rw [if_neg hl] at p
    obtain ⟨bv, rfl, mb, hi⟩ := p
    obtain ⟨id, st, rfl, hid, hat⟩ : ∃ id st, bv = .sl id 0 (hdr1 ++ recB r).length ∧ id < H1.n ∧ H1.at' id = .arr true st 1 (encB (hdr1 ++ recB r)) := by
      have hx := enc_len (hdr1 ++ recB r)
      have mb' : Mn H1 1 bv (encB (hdr1 ++ recB r)) := mb
      generalize encB (hdr1 ++ recB r) = E at mb' hx
      cases mb' with
      | nil => rw [List.length_nil] at hx; omega
      | own h1 h2 => exact ⟨_, _, by rw [hx], h1, h2⟩
    have hge := hi id (by simp [idA])
    have hI : ∀ x, x ∈ flat (encB (hdr1 ++ recB r)) → x.isI = true := by
      generalize hdr1 ++ recB r = l
      induction l with
      | nil => simp [encB, flat]
      | cons b l ih =>
        intro x hx
        simp only [encB, List.map_cons, flat, AV.cells, List.singleton_append, List.mem_cons] at hx
        rcases hx with rfl | hx
        · rfl
        · exact ih x hx
    rcases q with ⟨⟨id', n, k', c, rw', st', z, xs, e, g1, g2, g3, g4, g5, g6, g7, g8⟩, g9⟩ | ⟨-, hno⟩
    · have eid : id' = id := by simp at e; exact e.1.1.symm
      subst eid
      rw [hat] at g1
      injection g1 with q1 q2 q3 q4
      subst q1 q3 q4
      have hat' : H'.at' id' = .arr true 0 1 (encB (hdr1 ++ recB r)) := by rw [g8, if_neg (by omega), if_pos rfl]
      refine ⟨⟨by rw [g7]; exact e1.n, fun i hi' => by rw [g8, if_pos hi']⟩, ?_⟩
      rw [if_neg hl]
      refine ⟨_, rfl, ?_, fun i hi rw st z xs he => ?_⟩
      · have hx := enc_len (hdr1 ++ recB r)
        have := Mn.own (H := H') (z := 1) (by omega) hat'
        rw [hx] at this
        exact this.sl
      · simp only [idA, List.mem_singleton] at hi
        subst hi
        rw [hat'] at he
        injection he with _ h2
        omega
    · exact (hno ⟨⟨H1.n, fun i => if i < H.n then H.at' i else if i = id then .arr true 0 1 (encB (hdr1 ++ recB r)) else .no⟩,
        ⟨id, _, _, _, _, st, _, _, rfl, hat, (enc_len _).symm, by omega, hge, hid, hI, rfl, fun i => rfl⟩, fun i hi' => e1.at' i hi'⟩).elim
theorem nameL_root : (nameL [0]).isSome = true := by
  unfold nameL
  rw [if_neg (by simp), labGo]
  rfl
def fsD : List (Nat × Fn) := [(n_spec_l04In, c_spec_l04In), (n_spec_l02Put, c_spec_l02Put), (n_impl_within, c_impl_within), (n_impl_p16, c_impl_p16), (n_spec_EdnsRecord, c_spec_EdnsRecord), (n_impl_EdnsRecord, c_impl_EdnsRecord), (n_spec_l01Next, c_spec_l01Next), (n_spec_l01Begin, c_spec_l01Begin), (n_spec_l01Bytes, c_spec_l01Bytes), (n_spec_l13DrawOptions, c_spec_l13DrawOptions), (n_spec_DrawEdnsRecord, c_spec_DrawEdnsRecord), (n_impl_encoder_put, c_impl_encoder_put), (n_impl_flag, c_impl_flag), (n_impl_hasPointers, c_impl_hasPointers), (n_binary_bigEndian_PutUint32, c_binary_bigEndian_PutUint32), (n_impl_p32, c_impl_p32), (n_impl_labelsOf, c_impl_labelsOf), (n_impl_NameOK, c_impl_NameOK), (n_impl_parsed, c_impl_parsed), (n_impl_CheckData, c_impl_CheckData), (n_impl_recordOk, c_impl_recordOk), (n_impl_validMessage, c_impl_validMessage), (n_impl_encoder_name, c_impl_encoder_name), (n_impl_encoder_record, c_impl_encoder_record), (n_impl_encoded, c_impl_encoded), (n_impl_u16, c_impl_u16), (n_impl_bit, c_impl_bit), (n_binary_bigEndian_Uint32, c_binary_bigEndian_Uint32), (n_impl_u32, c_impl_u32), (n_impl_decoder_take, c_impl_decoder_take), (n_impl_DecodeName, c_impl_DecodeName), (n_impl_decoder_name, c_impl_decoder_name), (n_impl_decoder_record, c_impl_decoder_record), (n_impl_DecodeHead, c_impl_DecodeHead), (n_impl_Decode, c_impl_Decode), (n_impl_ReadEdns, c_impl_ReadEdns)]
theorem fsD_ok : AllK Go.Proofs.Tryd.prog fsD := ⟨k_spec_l04In, k_spec_l02Put, k_impl_within, k_impl_p16, k_spec_EdnsRecord, k_impl_EdnsRecord, k_spec_l01Next, k_spec_l01Begin, k_spec_l01Bytes, k_spec_l13DrawOptions, k_spec_DrawEdnsRecord, k_impl_encoder_put, k_impl_flag, k_impl_hasPointers, k_binary_bigEndian_PutUint32, k_impl_p32, k_impl_labelsOf, k_impl_NameOK, k_impl_parsed, k_impl_CheckData, k_impl_recordOk, k_impl_validMessage, k_impl_encoder_name, k_impl_encoder_record, k_impl_encoded, k_impl_u16, k_impl_bit, k_binary_bigEndian_Uint32, k_impl_u32, k_impl_decoder_take, k_impl_DecodeName, k_impl_decoder_name, k_impl_decoder_record, k_impl_DecodeHead, k_impl_Decode, k_impl_ReadEdns, trivial⟩
namespace Dq
section
variable (k : Nat)
theorem q_in : T_in (tabK fsD (k + 1)) n_spec_l04In := fun x m H => tabK_eq (F := c_spec_l04In) rfl r_l04In
theorem q_within : T_within (tabK fsD (k + 1)) n_impl_within := fun x lo m H => tabK_eq (F := c_impl_within) rfl r_within
theorem q_p16 : T_p16 (tabK fsD (k + 1)) n_impl_p16 := fun n H hn => by
  obtain ⟨v, H', h1, h2, rfl⟩ := tabK_run (n := n_impl_p16) (F := c_impl_p16) (l := fsD) rfl (r_p16 (C := tabK fsD k) (H := H) hn)
  exact ⟨H', h1, h2⟩
theorem q_put2 : T_put2 (tabK fsD (k + 1)) n_spec_l02Put := fun n H hn => by
  obtain ⟨v, H', h1, h2, rfl⟩ := tabK_run (n := n_spec_l02Put) (F := c_spec_l02Put) (l := fsD) rfl (r_l02Put (C := tabK fsD k) (H := H) (n := n) (k := 2) (by omega) (by decide))
  exact ⟨H', h1.trans (by simp [beK, be16]), h2⟩
theorem q_specEdns : T_edns (tabK fsD (k + 2)) n_spec_EdnsRecord := fun a os s c fl H h hn => tabK_run (F := c_spec_EdnsRecord) rfl (r_spec_EdnsRecord (q_in k) (q_put2 k) h hn)
theorem q_implEdns : T_edns (tabK fsD (k + 2)) n_impl_EdnsRecord := fun a os s c fl H h hn => tabK_run (F := c_impl_EdnsRecord) rfl (r_impl_EdnsRecord (q_within k) (q_p16 k) h hn)
theorem q_next : T_l01Next (tabK fsD (k + 1)) n_spec_l01Next := fun id a l n H h hl h0 hn => tabK_run (F := c_spec_l01Next) rfl (r_l01Next h hl h0 hn)
theorem q_begin : T_l01Begin (tabK fsD (k + 1)) n_spec_l01Begin := fun a l H h hl => tabK_run (F := c_spec_l01Begin) rfl (r_l01Begin h hl)
theorem q_bytes : T_l01Bytes (tabK fsD (k + 2)) n_spec_l01Bytes := fun id a l n H h hl hn => tabK_run (F := c_spec_l01Bytes) rfl (r_l01Bytes (q_next k) h hl hn)
theorem q_drawOptions : T_drawOptions (tabK fsD (k + 3)) n_spec_l13DrawOptions := fun id a l H h hl => tabK_run (F := c_spec_l13DrawOptions) rfl (r_drawOptions (q_next (k + 1)) (q_bytes k) h hl)
theorem q_draw : T_draw (tabK fsD (k + 4)) n_spec_DrawEdnsRecord := fun a l H h hl => tabK_run (F := c_spec_DrawEdnsRecord) rfl (r_draw (q_begin (k + 2)) (q_next (k + 2)) (q_drawOptions k) h hl)
theorem q_put : T_put (tabK fsD (k + 1)) n_impl_encoder_put := fun n0 pid s t H h hl => tabK_run (F := c_impl_encoder_put) rfl (r_put h hl)
theorem q_flag : T_flag (tabK fsD (k + 1)) n_impl_flag := fun j H h0 hk => tabK_eq (F := c_impl_flag) rfl (r_flag (b := false) h0 hk)
theorem q_hasP : T_hasP (tabK fsD (k + 1)) n_impl_hasPointers := fun t H => tabK_eq (F := c_impl_hasPointers) rfl r_hasPointers
theorem q_putU32 : T_putU32 (tabK fsD (k + 1)) n_binary_bigEndian_PutUint32 := fun id l n H h hl hn => tabK_run (F := c_binary_bigEndian_PutUint32) rfl (r_PutUint32 h hl hn)
theorem q_p32 : T_p32 (tabK fsD (k + 2)) n_impl_p32 := fun n H hn => tabK_run (F := c_impl_p32) rfl (r_p32 (q_putU32 k) hn)
theorem q_labelsOf : T_labelsOf (tabK fsD (k + 1)) n_impl_labelsOf := fun s H hs => tabK_run (F := c_impl_labelsOf) rfl (r_labelsOf hs)
theorem q_NameOK : T_NameOK (tabK fsD (k + 2)) n_impl_NameOK := fun s H hs => tabK_run (F := c_impl_NameOK) rfl (r_NameOK (q_labelsOf k) hs)
theorem q_parsed : T_parsed0 (tabK fsD (k + 1)) n_impl_parsed := fun t d H hF ht => tabK_run (F := c_impl_parsed) rfl (r_parsed0 hF ht)
theorem q_CheckData : T_CheckData0 (tabK fsD (k + 2)) n_impl_CheckData := fun t d H hF ht h0 h1 => tabK_run (F := c_impl_CheckData) rfl (r_CheckData0 (q_parsed k) hF ht h0 h1)
theorem q_recordOk {r : Rr} (hr : Plain r) (hf : formless r.t) : T_recordOk1 (tabK fsD (k + 3)) n_impl_recordOk r := fun H hF => tabK_run (F := c_impl_recordOk) rfl (r_recordOk (q_NameOK k) (q_within (k + 1)) (by rw [hr.o]; simp) ⟨by rw [hr.o]; exact nameL_root, hr.t, hr.c, hr.ttl⟩ fun H' he => by
  obtain ⟨v, H2, k1, rfl, e⟩ := q_CheckData k r.t r.d H' (hF.ext he) hf hr.t.1 hr.t.2
  rw [if_neg (by have := hr.d; omega)] at k1
  exact .inr ⟨_, H2, k1, rfl, e⟩)
theorem q_valid : T_valid1 (tabK fsD (k + 4)) n_impl_validMessage := fun c r H hF hc hr hf => tabK_run (F := c_impl_validMessage) rfl (r_validMessage1 (q_within (k + 2)) (q_recordOk k hr hf) hF hc (by decide) (by decide) (by decide))
theorem q_encName : T_encName0 (tabK fsD (k + 1)) n_impl_encoder_name := fun n0 pid s H h hl => tabK_run (F := c_impl_encoder_name) rfl (r_encName0 h hl)
theorem q_encRecord : T_encRecord0 (tabK fsD (k + 3)) n_impl_encoder_record := fun n0 pid s r H h hl hr => tabK_run (F := c_impl_encoder_record) rfl (r_encRecord0 (q_encName (k + 1)) (q_p16 (k + 1)) (q_p32 k) (q_put (k + 1)) (q_hasP (k + 1)) h hl hr)
theorem q_encoded : T_encoded1 (tabK fsD (k + 4)) n_impl_encoded := fun c r H hc hr => tabK_run (F := c_impl_encoded) rfl (r_encoded1 (q_flag (k + 2)) (q_p16 (k + 2)) (q_put (k + 2)) (q_encRecord k) hc hr)
theorem q_u16 : T_u16 (tabK fsD (k + 1)) n_impl_u16 := fun d H hd => tabK_eq (F := c_impl_u16) rfl (r_u16 hd)
theorem q_bit : T_bit (tabK fsD (k + 1)) n_impl_bit := fun n j H hn hj => tabK_eq (F := c_impl_bit) rfl (r_bit hn hj)
theorem q_Uint32 : T_Uint32 (tabK fsD (k + 1)) n_binary_bigEndian_Uint32 := fun x a l H hx h hl => tabK_eq (F := c_binary_bigEndian_Uint32) rfl (r_Uint32 hx h hl)
theorem q_u32 : T_u32 (tabK fsD (k + 2)) n_impl_u32 := fun d H hd => tabK_run (F := c_impl_u32) rfl (r_u32 (q_Uint32 k) hd)
theorem q_take : T_take (tabK fsD (k + 1)) n_impl_decoder_take := fun id a l p n code H h hn => tabK_run (F := c_impl_decoder_take) rfl (r_take h hn)
theorem q_DecodeName : T_DecodeName0 (tabK fsD (k + 1)) n_impl_DecodeName := fun a l p H h hl hp h0 => tabK_run (F := c_impl_DecodeName) rfl (r_DecodeName0 h hl hp h0)
theorem q_decName : T_decName0 (tabK fsD (k + 2)) n_impl_decoder_name := fun id a l p H h hp h0 => tabK_run (F := c_impl_decoder_name) rfl (r_decName0 (q_DecodeName k) h hp h0)
theorem q_decRecord : T_decRecord1 (tabK fsD (k + 3)) n_impl_decoder_record := fun id a l pre r H h hl hr hf hF => tabK_run (F := c_impl_decoder_record) rfl (r_decRecord1 (q_decName k) (q_take (k + 1)) (q_u16 (k + 1)) (q_u32 k) (q_hasP (k + 1)) (q_CheckData k) h hl hr hf hF)
theorem q_DecodeHead : T_DecodeHead (tabK fsD (k + 2)) n_impl_DecodeHead := fun a l H h hc hl => tabK_run (F := c_impl_DecodeHead) rfl (r_DecodeHead (q_u16 k) (q_bit k) h hc hl)
theorem q_Decode : T_Decode1 (tabK fsD (k + 4)) n_impl_Decode := fun a r H h hc hl hr hf hF => tabK_run (F := c_impl_Decode) rfl (r_Decode1 (q_DecodeHead (k + 1)) (q_decRecord k) h hc hl hr hf hF)
theorem q_ReadEdns : T_rdEdns (tabK fsD (k + 2)) n_impl_ReadEdns := fun q a b c m H h hs => tabK_run (F := c_impl_ReadEdns) rfl (r_impl_ReadEdns (q_u16 k) h hs)
end
noncomputable def T1 : Tab := ext (tabK fsD 4) n_impl_Encode (entS (tabK fsD 4) c_impl_Encode)
noncomputable def T2 : Tab := ext T1 n_laws_FnEdns (ent T1 c_laws_FnEdns)
theorem T1_ok : TabOK Go.Proofs.Tryd.prog T1 := entS_ok (tabK_ok fsD_ok mixed 4) (tabK_ok fsD_ok mixed 4) mixed k_impl_Encode
theorem T2_ok : TabOK Go.Proofs.Tryd.prog T2 := ent_ok T1_ok mixed k_laws_FnEdns
theorem T1_at {g : Nat} (h : g ≠ n_impl_Encode) : T1 g = tabK fsD 4 g := ext_at h
theorem t_draw : T_draw T1 n_spec_DrawEdnsRecord := by unfold T_draw; rw [T1_at (by decide)]; exact q_draw 0
theorem t_spec : T_edns T1 n_spec_EdnsRecord := by unfold T_edns; rw [T1_at (by decide)]; exact q_specEdns 2
theorem t_impl : T_edns T1 n_impl_EdnsRecord := by unfold T_edns; rw [T1_at (by decide)]; exact q_implEdns 2
theorem t_dec : T_Decode1 T1 n_impl_Decode := by unfold T_Decode1; rw [T1_at (by decide)]; exact q_Decode 0
theorem t_rd : T_rdEdns T1 n_impl_ReadEdns := by unfold T_rdEdns; rw [T1_at (by decide)]; exact q_ReadEdns 2
theorem t_enc : T_EncodeS T1 n_impl_Encode := fun c r H hF hc hr hf => encS (r_Encode1 (q_valid 0) (q_encoded 0) hF hc hr hf)
theorem law {a : AV} {l : List UInt8} {H : AH} (h : Byt H a l) (hF : FormsOK H) : ∃ H', T2 n_laws_FnEdns [a] H = some (.b true, H') := by
  obtain ⟨v, H', h1, rfl⟩ := ent_spec (f := n_laws_FnEdns) (r_law_Edns t_draw t_spec t_impl t_enc t_dec t_rd h hF)
  exact ⟨H', h1⟩
end Dq
end Go.Vm

/- The program's table of forms, as a row finds it: a map in some order. -/
namespace Go.Vm
set_option linter.unusedVariables false
set_option linter.unusedSimpArgs false
open Go.ChangeShapes Go.WideShapes Go.ChangeAt Go.RowKit Go.WideElems
def formsD {H : Type} : List (Lit × DataW H) := formsL.map fun e => (.int .i64 e.1, .lit (.string e.2))
theorem gForms_at : Go.Proofs.Tryd.prog.globalNamed "loop.example/s01858/impl.forms" = some 1 := by kernel_rfl
theorem tForms_at : (Go.Proofs.Tryd.prog.globals[1]?).map (·.type) = some 179 := by kernel_rfl
theorem formsEs_fun : ∀ e e', e ∈ formsEs → e' ∈ formsEs → e.1.toI = e'.1.toI → e.2 = e'.2 := by
  intro e e' h h' hh
  have : ∀ e ∈ formsEs, ∀ e' ∈ formsEs, e.1.toI = e'.1.toI → e.2 = e'.2 := by
    intro e he e' he' 
    simp only [formsEs, formsL, List.map_cons, List.map_nil, List.mem_cons, List.not_mem_nil, or_false] at he he'
    rcases he with rfl | rfl | rfl | rfl | rfl | rfl | rfl | rfl | rfl | rfl | rfl | rfl | rfl | rfl <;>
    rcases he' with rfl | rfl | rfl | rfl | rfl | rfl | rfl | rfl | rfl | rfl | rfl | rfl | rfl | rfl <;>
    first | exact fun _ => rfl | (intro h; exact absurd h (by decide))
  exact this e h e' h' hh
theorem forms_open {Hh : Type} {enc : TypeId × Value → Hh} {W : World} {sp : Nat → Bool} {held : Bool} {fuel : Nat} {cs : List Value} {p : List MemPlace}
    (hd : DataW.trod enc Go.Proofs.Tryd.prog W 0 sp held fuel 179 cs = some (.map formsD, p)) :
    ∃ b es clk, cs = [.map (some b)] ∧ W.heap[b]? = some (.map es clk) ∧ ∃ ls : List (AV × AV), (∀ ρ, All2 (EntR ρ) ls es.toList) ∧ (∀ e, e ∈ ls → e ∈ formsEs) ∧ (∀ e, e ∈ formsEs → e ∈ ls) := by
  rcases open_map Go.Proofs.Tryd.underlying179 hd with ⟨_, hx⟩ | ⟨b, es, clk, m, rfl, rfl, hb, _, F, hx⟩
  · cases hx
  simp only [Prod.mk.injEq, DataW.map.injEq] at hx
  have hmem : ∀ y, y ∈ es.toList.map (rg Go.Proofs.Tryd.prog 2 (elemAt enc Go.Proofs.Tryd.prog W 0 sp held m 9)) ↔ y ∈ formsD := fun y => by rw [hx.1]; exact Go.mem_sorted.symm
  have one : ∀ x, x ∈ es.toList → ∃ e, e ∈ formsL ∧ rg Go.Proofs.Tryd.prog 2 (elemAt enc Go.Proofs.Tryd.prog W 0 sp held m 9) x = (.int .i64 e.1, .lit (.string e.2)) ∧ x.key = .int .i64 e.1 ∧ x.val = .string ⟨e.2.toArray⟩ := by
    intro x hxe
    obtain ⟨y, hy⟩ := F.reads x hxe
    have hrg := rg_of hy
    have := (hmem y).1 (hrg ▸ List.mem_map_of_mem hxe)
    obtain ⟨e, he, rfl⟩ := List.mem_map.1 this
    have hk := rd_key hy
    obtain ⟨z, hz, hz2⟩ := rd_val hy
    refine ⟨e, he, hrg, ?_, ?_⟩
    · unfold keyOf at hk
      rw [Go.Proofs.Tryd.underlying2] at hk
      simp only at hk
      unfold mapKey at hk
      rw [Go.Proofs.Tryd.underlying2] at hk
      generalize x.key = kv at hk
      cases kv <;> simp at hk
      obtain ⟨⟨rfl, -⟩, rfl⟩ := hk
      rfl
    · unfold elemAt at hz
      split at hz
      · rename_i hf
        obtain ⟨s, hs, hs2, -⟩ := DataW.trod_string Go.Proofs.Tryd.underlying9 hz
        subst hs2
        have hv : x.val = .string s := by
          generalize x.val = v at hs hf
          cases v <;> simp [Value.formed, Go.Proofs.Tryd.underlying9, Value.cells] at hf hs
          subst hs; rfl
        simp only [DataW.lit.injEq, Lit.string.injEq] at hz2
        rw [hv, hz2]
      · cases hz
  let φ : MapEntry → AV × AV := fun x => (.i .i64 (match x.key with | .int _ n => n | _ => 0), .s (match x.val with | .string s => s.data.toList | _ => []))
  have hφ : ∀ x, x ∈ es.toList → ∃ e, e ∈ formsL ∧ rg Go.Proofs.Tryd.prog 2 (elemAt enc Go.Proofs.Tryd.prog W 0 sp held m 9) x = (.int .i64 e.1, .lit (.string e.2)) ∧ φ x = (.i .i64 e.1, .s e.2) ∧ ∀ ρ, EntR ρ (φ x) x := by
    intro x hxe
    obtain ⟨e, h1, h2, h3, h4⟩ := one x hxe
    have hp : φ x = (.i .i64 e.1, .s e.2) := by simp only [φ, h3, h4]
    refine ⟨e, h1, h2, hp, fun ρ => ?_⟩
    rw [hp]
    exact ⟨(show x.key = _ from h3), (show x.val = _ from h4)⟩
  refine ⟨b, es, clk, rfl, hb, es.toList.map φ, fun ρ => ?_, fun e he => ?_, fun e he => ?_⟩
  · rw [All2.map]
    have : ∀ l : List MapEntry, (∀ x, x ∈ l → x ∈ es.toList) → All2 (fun x y => EntR ρ (φ x) y) l l := by
      intro l
      induction l with
      | nil => intro _; trivial
      | cons x l ih =>
        intro h
        obtain ⟨e, -, -, -, h4⟩ := hφ x (h x (by simp))
        exact ⟨h4 ρ, ih fun y hy => h y (by simp [hy])⟩
    exact this _ fun x hx => hx
  · obtain ⟨x, hxe, rfl⟩ := List.mem_map.1 he
    obtain ⟨e, h1, -, h3, -⟩ := hφ x hxe
    rw [h3]
    exact List.mem_map.2 ⟨e, h1, rfl⟩
  · obtain ⟨e0, h0, rfl⟩ := List.mem_map.1 he
    have : ((.int .i64 e0.1, .lit (.string e0.2)) : Lit × DataW Hh) ∈ formsD := List.mem_map.2 ⟨e0, h0, rfl⟩
    obtain ⟨x, hxe, hrx⟩ := List.mem_map.1 ((hmem _).2 this)
    obtain ⟨e, h1, h2, h3, -⟩ := hφ x hxe
    rw [hrx] at h2
    simp only [Prod.mk.injEq, Lit.int.injEq, DataW.lit.injEq, Lit.string.injEq, true_and] at h2
    refine List.mem_map.2 ⟨x, hxe, ?_⟩
    rw [h3, h2.1, h2.2]
/-- The first heap: the table's variable, and the table. -/
theorem forms_first {laid : List (String × DataW Unit)} {W : World} (hl : laid = [("loop.example/s01858/impl.forms", .map formsD)]) (hL : laidMetH Go.Proofs.Tryd.prog laid W) :
    ∃ ρ H, Fst Go.Proofs.Tryd.prog ρ H W ∧ FormsOK H := by
  subst hl
  rw [MakeChecks.laidMetH_plain _ _ _ rfl] at hL
  obtain ⟨ps, ⟨g, t, cs, f0, p0, q0, hg, ht, hv, hd, _, _⟩, _, _⟩ := hL
  obtain rfl := Option.some.inj (gForms_at.symm.trans hg)
  obtain rfl := Option.some.inj (tForms_at.symm.trans ht)
  obtain ⟨b, es, clk, hcs, hb, ls, h1, h2, h3⟩ := forms_open hd
  obtain ⟨ty, fz, hg1⟩ : ∃ ty fz, W.heap[1]? = some (.cells cs ty fz) := by
    unfold World.var? at hv
    rw [hg] at hv
    simp only [Option.bind_some] at hv
    split at hv
    · rename_i c ty fz hc
      cases hv
      exact ⟨ty, fz, hc⟩
    · cases hv
  have hG : 1 < Go.Proofs.Tryd.prog.globals.size := by
    cases h : Go.Proofs.Tryd.prog.globals[1]? with
    | none => rw [h] at ht; cases ht
    | some x => exact (Array.getElem?_eq_some_iff.1 h).1
  obtain ⟨F1, le1⟩ := (Fst.first1 (P := Go.Proofs.Tryd.prog) (w := W) fun _ => cs.size).map hb (h1 _)
  obtain ⟨F2, le2⟩ := F1.glob1 (g := 1) (x := .mp Go.Proofs.Tryd.prog.globals.size) (show 1 < Go.Proofs.Tryd.prog.globals.size + 1 by omega) (by simp only [Rn.addO, rn1]; rw [if_pos hG]) hg1 hcs ⟨b, by simp [Rn.addO], rfl⟩
  refine ⟨_, _, F2, ⟨false, Go.Proofs.Tryd.prog.globals.size, ls, set_at, ?_, (show 1 < Go.Proofs.Tryd.prog.globals.size + 1 by omega), (show Go.Proofs.Tryd.prog.globals.size < Go.Proofs.Tryd.prog.globals.size + 1 by omega), fun e he => ?_, fun t => ?_⟩⟩
  · rw [set_ne (by omega)]
    exact new_at (H := ⟨Go.Proofs.Tryd.prog.globals.size, fun _ => .no⟩)
  · obtain ⟨e0, -, rfl⟩ := List.mem_map.1 (h2 e he)
    rfl
  · refine mpFind_same h2 h3 fun e e' he he' hk hk' => formsEs_fun e e' he he' ?_
    obtain ⟨e0, -, rfl⟩ := List.mem_map.1 he
    obtain ⟨e1, -, rfl⟩ := List.mem_map.1 he'
    simp only [AV.cells, cellsEq, cellEq, Bool.and_true, decide_eq_true_eq] at hk hk'
    simp only [AV.toI]
    omega
end Go.Vm

/- The law of the senders' records returns true whatever its argument, and leaves it and the table of forms as they were. -/
namespace Go.Proofs.YtfamnghjibckbaaDoor
open Go.ChangeShapes Go.WideShapes Go.ChangeAt Go.RowKit
namespace fnEdns
theorem own : ownKnob Tryd.prog.godebug = none := by kernel_rfl
theorem laidOut : laidOutB Tryd.prog = true := by kernel_rfl
/-- A table's variable reads as it did. -/
theorem varsStay {H : Type} {enc : TypeId × Value → H} {W W' : World} {gs : List (DataW H)} {q : List MemPlace} (hb : Below W.heap.size W W') (hV : DataW.TrodVars enc Tryd.prog W (fun _ => true) ["loop.example/s01858/impl.forms"] gs q) (hlt : ∀ p, p ∈ q → p.block < W.heap.size) {sp : Nat → Bool} (hsp : ∀ p, p ∈ q → sp p.block = true) :
    DataW.TrodVars enc Tryd.prog W' sp ["loop.example/s01858/impl.forms"] gs q := by
  obtain ⟨g, t, cs, fuel, d, p, rfl, hg, ht, hv, hd, rfl⟩ := trodVars_one hV
  obtain rfl := Option.some.inj (Vm.gForms_at.symm.trans hg)
  obtain rfl := Option.some.inj (Vm.tForms_at.symm.trans ht)
  refine trodVars_mk1 hg ht ?_ (DataW.trod_stays (kids_book laidOut (by kernel_rfl)) (book_sized (by kernel_rfl)) (fun h => by cases h) ⟨of_decide_eq_true (by kernel_rfl), book_self _⟩ hd (fun x hx => hb.same (hlt x (List.mem_append_right _ hx))) fun x hx => hsp x (List.mem_append_right _ hx))
  unfold World.var? at hv ⊢
  rw [hg] at hv ⊢
  simp only [Option.bind_some] at hv ⊢
  have h1 : 1 < W.heap.size := by
    cases h : W.heap[1]? with
    | none => rw [h] at hv; cases hv
    | some x => exact (Array.getElem?_eq_some_iff.1 h).1
  rw [hb.block 1 h1]
  exact hv
set_option maxRecDepth 100000 in
theorem contract (H : Type) (enc : TypeId × Value → H) (W : World) (base : Nat) (args : Array Value) (ds gs : List (DataW H)) (before : List MemPlace)
    (hval : ∀ (j : Nat) t v, Tryd.f3.params[j]? = some t → args[j]? = some v → Value.okWide Tryd.prog W .any base t v)
    (hW : DataW.Whole enc Tryd.prog Tryd.f3.params.toList Rows.fnEdnsSpec.vars false W args.toList ds gs before) (hL : laidMetH Tryd.prog Rows.fnEdnsRow.laid W) :
    Calls Tryd.prog 3 args W fun e W' => ∃ v, e = .returned v ∧ Rows.fnEdnsSpec.post enc Tryd.prog Tryd.f3 false true false false W args v W' := by
  have hW' := hW
  obtain ⟨p, q, hA0, hV0, rfl, hfz, hnd⟩ := hW
  have hA : DataW.TrodAll enc Tryd.prog W 0 (fun _ => true) true Tryd.f3.params.toList args.toList ds p := hA0
  have hV : DataW.TrodVars enc Tryd.prog W (fun _ => true) ["loop.example/s01858/impl.forms"] gs q := hV0
  rw [Tryd.params3] at hA hval
  obtain ⟨v0, d0, hargs, rfl, h0⟩ := trodAll_one hA
  obtain ⟨rfl⟩ : args = #[v0] := by cases args; simp_all
  obtain ⟨g, t, cs, fuel, d, pv, rfl, -⟩ := trodVars_one hV
  obtain ⟨ρ0, H0, F0, hF0⟩ := Vm.forms_first rfl hL
  obtain ⟨ρ, Hh, a, l, F, le, e1, r1, b1⟩ := F0.bytes Tryd.underlying22 Tryd.underlying5 (by kernel_rfl) (hval 0 22 v0 rfl rfl) h0
  obtain ⟨H', hlaw⟩ := Vm.Dq.law b1 (hF0.ext e1)
  have hcall := (Vm.Dq.T2_ok _ _ _ _ _ hlaw).2 ρ W #[v0] F.heap F.glob ⟨r1, trivial⟩
  refine hcall.mono fun e W' hR => ?_
  cases e with
  | panicked _ => exact hR.elim
  | outgrown => exact hR.elim
  | returned r =>
    obtain ⟨ρ', hs, hv, -⟩ := hR
    have hr : r = .bool true := hv
    subst hr
    have hb := hs.below F
    have hlt := hW'.lt
    refine ⟨_, rfl, Vm.post_below (pa := p) (pv := q) hW' (fun _ _ _ => trodAll_mk1 (shut_bool Tryd.underlying4 _)) (fun sp hsp => ?_) (fun sp hsp => ?_) rfl hb (ok_one (by kernel_rfl) rfl (okWide_bool_mk Tryd.underlying4 _))⟩
    · refine Vm.trodAll_stays laidOut hb (fun t ht => ?_) hA0 (fun x hx => hlt x (List.mem_append_left _ hx)) (fun x hx => hsp x (List.mem_append_left _ hx))
      rw [Tryd.params3] at ht
      have : t = 22 := by simpa using ht
      subst this
      exact ⟨by kernel_rfl, of_decide_eq_true (by kernel_rfl)⟩
    · exact varsStay hb hV (fun x hx => hlt x (List.mem_append_right _ hx)) (fun x hx => hsp x (List.mem_append_right _ hx))
/-- The door's own heap meets the condition. -/
theorem door_met (os : Os) (args : Array Value) : laidMetH Tryd.prog Rows.fnEdnsRow.laid ((World.doorLaid Tryd.prog 400 os).forCall (fun _ _ => 0) ⟨#[], args, []⟩).memory :=
  laidMetH_of_parts3 (fuel := 8) (laidMet_of_run' 8 (by kernel_rfl) (by kernel_rfl)) (by kernel_rfl) (by kernel_rfl)
set_option maxRecDepth 100000 in
theorem lifted (os : Os) (started : os.Started) (H : Type) (enc : TypeId × Value → H) :
    ReturnsInHanded {} Tryd.checked os 3 .any (fun w args => (Rows.fnEdnsSpec.pre enc Tryd.prog Tryd.f3 [] false w args ∧ laidMetH Tryd.prog Rows.fnEdnsRow.laid w) ∧ sizedMet enc Tryd.prog Tryd.f3 (OpenSpec.ofChange Rows.fnEdnsSpec) false w args)
      (Rows.fnEdnsSpec.post enc Tryd.prog Tryd.f3 false true false false) := by
  refine returnsInHanded_of_change_and (C := Tryd.checked) (X := fun w _ => laidMetH Tryd.prog Rows.fnEdnsRow.laid w) (fun _ _ _ hh h => h.of_heap hh) own started (by kernel_rfl) Tryd.func3
    (ChangeSpec.witness_shaped (enc := enc) (C := Tryd.checked) (os := os) (X := fun w _ => laidMetH Tryd.prog Rows.fnEdnsRow.laid w) false (World.doorLaid Tryd.prog 400 os) #[.slice none 0 0] 8 rfl (World.shaped_of_RefB (by kernel_rfl) (by kernel_rfl)) (by kernel_rfl) (by kernel_rfl) (by kernel_rfl) (door_met os _)) ?_
  intro W base args ds gs before hval hW _ _ hL _
  exact contract H enc W base args ds gs before hval hW hL
theorem said : Rows.FnEdnsSaid :=
  OpenClaim.holds_of_wide 3 Tryd.f3 rfl rfl rfl rfl rfl rfl rfl ⟨rfl, rfl, rfl, rfl, rfl⟩ rfl rfl rfl rfl rfl (by kernel_rfl) Tryd.func3 (by kernel_rfl)
    (of_decide_eq_true (by kernel_rfl)) (by unfold Func.isWrapper; first | (rw [if_pos (by decide +kernel)]; kernel_rfl) | (rw [if_neg (by decide +kernel)]; exact ⟨rfl, rfl⟩))
    (fun os started H enc _ => lifted os started H enc)
theorem proved : Rows.FnEdnsCardSaid :=
  Claim7.holds_tied_plain_at .later [] [.mapped] true (true, "13f9e3eae6e9af9a5c580f949ac881abfaab5008fc39d082f2d373462b7b5f27") false
    said (fun _ h => by cases h) (by kernel_rfl) (fun _ h => by cases h) fnEdns_row_tie rfl ⟨rfl, rfl⟩ (by kernel_rfl) rfl
    (fun f fn hf hfn => by
      obtain rfl : f = 3 := Option.some.inj ((show Tryd.prog.funcNamed "loop.example/s01858/laws.FnEdns" = some 3 by kernel_rfl).symm.trans hf) |>.symm
      obtain rfl : fn = Tryd.f3 := (Option.some.inj (Tryd.func3.symm.trans hfn)).symm
      exact ⟨by kernel_rfl, fun j t ht => by
        rw [Tryd.params3] at ht
        have hm : t ∈ [22] := by simpa using Array.mem_of_getElem? ht
        have hall : ([22].all fun u => !Tryd.prog.wantsStandIn u) = true := by kernel_rfl
        exact (show Tryd.prog.wantsStandIn t = false by simpa using List.all_eq_true.1 hall t hm)⟩)
    (by kernel_rfl)
end fnEdns
end Go.Proofs.YtfamnghjibckbaaDoor
