import Derived.Test.YtfamnghjibckbaaDoorRt11
import Derived.Test.YtfamnghjibckbaaDoorRt5
import Derived.Test.YtfamnghjibckbaaDoorRt7
import Derived.Test.YtfamnghjibckbaaDoorRt6
import Derived.Test.YtfamnghjibckbaaDoorRows
import Derived.ProofKit
import Derived.Test.YtfamnghjibckbaaDoorCards
import Derived.Test.YtfamnghjibckbaaDoorTie
import Derived.JoinedCond
/- The law of Truncate returns true: the table of its functions. -/
namespace Go.Vm
set_option linter.unusedVariables false
set_option linter.unusedSimpArgs false
def fsT : List (Nat × Fn) := [(n_laws_FnExactTruncate, c_laws_FnExactTruncate), (n_laws_szMessage, c_laws_szMessage), (n_spec_Truncate, c_spec_Truncate), (n_laws_toMessage, c_laws_toMessage), (n_impl_Truncate, c_impl_Truncate), (n_laws_eqMessage, c_laws_eqMessage), (n_laws_markMessage, c_laws_markMessage), (n_laws_heldMessage, c_laws_heldMessage), (n_laws_szQuestionS, c_laws_szQuestionS), (n_laws_szRRS, c_laws_szRRS), (n_spec_l04Valid, c_spec_l04Valid), (n_spec_l13Truncate, c_spec_l13Truncate), (n_spec_l13CopyMessage, c_spec_l13CopyMessage), (n_laws_toHead, c_laws_toHead), (n_laws_toQuestionS, c_laws_toQuestionS), (n_laws_toRRS, c_laws_toRRS), (n_impl_validMessage, c_impl_validMessage), (n_impl_encoded, c_impl_encoded), (n_impl_copyMessage, c_impl_copyMessage), (n_impl_dropRun, c_impl_dropRun), (n_laws_eqHead, c_laws_eqHead), (n_laws_eqQuestionS, c_laws_eqQuestionS), (n_laws_eqRRS, c_laws_eqRRS), (n_laws_markQuestionS, c_laws_markQuestionS), (n_laws_markRRS, c_laws_markRRS), (n_laws_heldQuestionS, c_laws_heldQuestionS), (n_laws_heldRRS, c_laws_heldRRS), (n_laws_szQuestion, c_laws_szQuestion), (n_laws_szRR, c_laws_szRR), (n_spec_l04In, c_spec_l04In), (n_spec_NameOK, c_spec_NameOK), (n_spec_l04AllSound, c_spec_l04AllSound), (n_spec_l04Write, c_spec_l04Write), (n_spec_l13Drop, c_spec_l13Drop), (n_spec_l06Join, c_spec_l06Join), (n_laws_toQuestion, c_laws_toQuestion), (n_laws_toRR, c_laws_toRR), (n_impl_within, c_impl_within), (n_impl_NameOK, c_impl_NameOK), (n_impl_recordOk, c_impl_recordOk), (n_impl_p16, c_impl_p16), (n_impl_flag, c_impl_flag), (n_impl_encoder_put, c_impl_encoder_put), (n_impl_encoder_name, c_impl_encoder_name), (n_impl_encoder_record, c_impl_encoder_record), (n_laws_eqQuestion, c_laws_eqQuestion), (n_laws_eqRR, c_laws_eqRR), (n_laws_markText, c_laws_markText), (n_spec_l01Split, c_spec_l01Split), (n_spec_l04Sound, c_spec_l04Sound), (n_spec_l04Text, c_spec_l04Text), (n_spec_l04Head, c_spec_l04Head), (n_spec_l04Question, c_spec_l04Question), (n_spec_l04WriteRecord, c_spec_l04WriteRecord), (n_impl_labelsOf, c_impl_labelsOf), (n_impl_CheckData, c_impl_CheckData), (n_impl_hasPointers, c_impl_hasPointers), (n_impl_p32, c_impl_p32), (n_impl_DataNames, c_impl_DataNames), (n_spec_CheckData, c_spec_CheckData), (n_spec_l02Put, c_spec_l02Put), (n_spec_l04Flag, c_spec_l04Flag), (n_spec_l04Name, c_spec_l04Name), (n_spec_l04Pointed, c_spec_l04Pointed), (n_spec_l02Form, c_spec_l02Form), (n_spec_l02Parts, c_spec_l02Parts), (n_impl_parsed, c_impl_parsed), (n_binary_bigEndian_PutUint32, c_binary_bigEndian_PutUint32), (n_spec_l04Seen, c_spec_l04Seen), (n_spec_l02NameAt, c_spec_l02NameAt), (n_spec_l02Text, c_spec_l02Text), (n_spec_l02Alnum, c_spec_l02Alnum), (n_spec_l02Map, c_spec_l02Map), (n_impl_parsed_1, c_impl_parsed_1), (n_impl_nameAt, c_impl_nameAt), (n_impl_MapTypes, c_impl_MapTypes)]
theorem fsT_ok : AllK Go.Proofs.Tryd.prog fsT := ⟨k_laws_FnExactTruncate, k_laws_szMessage, k_spec_Truncate, k_laws_toMessage, k_impl_Truncate, k_laws_eqMessage, k_laws_markMessage, k_laws_heldMessage, k_laws_szQuestionS, k_laws_szRRS, k_spec_l04Valid, k_spec_l13Truncate, k_spec_l13CopyMessage, k_laws_toHead, k_laws_toQuestionS, k_laws_toRRS, k_impl_validMessage, k_impl_encoded, k_impl_copyMessage, k_impl_dropRun, k_laws_eqHead, k_laws_eqQuestionS, k_laws_eqRRS, k_laws_markQuestionS, k_laws_markRRS, k_laws_heldQuestionS, k_laws_heldRRS, k_laws_szQuestion, k_laws_szRR, k_spec_l04In, k_spec_NameOK, k_spec_l04AllSound, k_spec_l04Write, k_spec_l13Drop, k_spec_l06Join, k_laws_toQuestion, k_laws_toRR, k_impl_within, k_impl_NameOK, k_impl_recordOk, k_impl_p16, k_impl_flag, k_impl_encoder_put, k_impl_encoder_name, k_impl_encoder_record, k_laws_eqQuestion, k_laws_eqRR, k_laws_markText, k_spec_l01Split, k_spec_l04Sound, k_spec_l04Text, k_spec_l04Head, k_spec_l04Question, k_spec_l04WriteRecord, k_impl_labelsOf, k_impl_CheckData, k_impl_hasPointers, k_impl_p32, k_impl_DataNames, k_spec_CheckData, k_spec_l02Put, k_spec_l04Flag, k_spec_l04Name, k_spec_l04Pointed, k_spec_l02Form, k_spec_l02Parts, k_impl_parsed, k_binary_bigEndian_PutUint32, k_spec_l04Seen, k_spec_l02NameAt, k_spec_l02Text, k_spec_l02Alnum, k_spec_l02Map, k_impl_parsed_1, k_impl_nameAt, k_impl_MapTypes, trivial⟩
namespace Tq
section
variable (k : Nat)
theorem q_in : T_in (tabK fsT (k + 1)) n_spec_l04In := fun x m H => tabK_eq (F := c_spec_l04In) rfl (r_l04In)
theorem q_within : T_within (tabK fsT (k + 1)) n_impl_within := fun x lo m H => tabK_eq (F := c_impl_within) rfl (r_within)
theorem q_p16 : T_p16 (tabK fsT (k + 1)) n_impl_p16 := fun n H hn => by
  obtain ⟨v, H', h1, h2, rfl⟩ := tabK_run (n := n_impl_p16) (F := c_impl_p16) (l := fsT) rfl (r_p16 (C := tabK fsT k) (H := H) hn)
  exact ⟨H', h1, h2⟩
theorem q_put2 : T_put2 (tabK fsT (k + 1)) n_spec_l02Put := fun n H hn => by
  obtain ⟨v, H', h1, h2, rfl⟩ := tabK_run (n := n_spec_l02Put) (F := c_spec_l02Put) (l := fsT) rfl (r_l02Put (C := tabK fsT k) (H := H) (n := n) (k := 2) (by omega) (by decide))
  exact ⟨H', h1.trans (by simp [beK, be16]), h2⟩
theorem q_put4 : T_put4 (tabK fsT (k + 1)) n_spec_l02Put := fun n H hn => by
  obtain ⟨v, H', h1, h2, rfl⟩ := tabK_run (n := n_spec_l02Put) (F := c_spec_l02Put) (l := fsT) rfl (r_l02Put (C := tabK fsT k) (H := H) (n := n) (k := 4) (by omega) (by decide))
  exact ⟨H', h1.trans (by simp [beK, be32]), h2⟩
theorem q_split : T_split (tabK fsT (k + 1)) n_spec_l01Split := fun s H hs => tabK_run (F := c_spec_l01Split) rfl (r_split hs)
theorem q_NameOKs : T_NameOKs (tabK fsT (k + 2)) n_spec_NameOK := fun s H hs => tabK_run (F := c_spec_NameOK) rfl (r_NameOKs (q_split k) hs)
theorem q_labelsOf : T_labelsOf (tabK fsT (k + 1)) n_impl_labelsOf := fun s H hs => tabK_run (F := c_impl_labelsOf) rfl (r_labelsOf hs)
theorem q_NameOK : T_NameOK (tabK fsT (k + 2)) n_impl_NameOK := fun s H hs => tabK_run (F := c_impl_NameOK) rfl (r_NameOK (q_labelsOf k) hs)
theorem q_alnum : T_alnum (tabK fsT (k + 1)) n_spec_l02Alnum := fun c H => tabK_eq (F := c_spec_l02Alnum) rfl (r_alnum)
theorem q_txt : T_txt (tabK fsT (k + 1)) n_spec_l02Text := fun s H hs => tabK_eq (F := c_spec_l02Text) rfl (r_txt hs)
theorem q_nmS : T_nmS (tabK fsT (k + 1)) n_spec_l02NameAt := fun s H hs => tabK_eq (F := c_spec_l02NameAt) rfl (r_nmS hs)
theorem q_map : T_map (tabK fsT (k + 1)) n_spec_l02Map := fun s H hs => tabK_eq (F := c_spec_l02Map) rfl (r_map hs)
theorem q_form : T_form (tabK fsT (k + 1)) n_spec_l02Form := fun t H => tabK_eq (F := c_spec_l02Form) rfl (r_form)
theorem q_parts : T_parts (tabK fsT (k + 2)) n_spec_l02Parts := fun form d H hf hd => tabK_run (F := c_spec_l02Parts) rfl (r_parts (q_nmS k) (q_txt k) (q_alnum k) (q_map k) hf hd)
theorem q_CheckS : T_CheckS (tabK fsT (k + 3)) n_spec_CheckData := fun t d H hd => tabK_run (F := c_spec_CheckData) rfl (r_CheckS (q_form (k + 1)) (q_parts k) hd)
theorem q_nmI : T_nmI (tabK fsT (k + 1)) n_impl_nameAt := fun s H hs => tabK_eq (F := c_impl_nameAt) rfl (r_nmI hs)
theorem q_rest : T_rest (tabK fsT (k + 1)) n_impl_parsed_1 := fun i3 i9 a d H h3 h9 hd => tabK_eq (F := c_impl_parsed_1) rfl (r_rest h3 h9 hd)
theorem q_MapTypes : T_MapTypes (tabK fsT (k + 1)) n_impl_MapTypes := fun s H hs => tabK_run (F := c_impl_MapTypes) rfl (r_MapTypes hs)
theorem q_parsed : T_parsed (tabK fsT (k + 2)) n_impl_parsed := fun t d H hF hd => tabK_run (F := c_impl_parsed) rfl (r_parsed (q_rest k) (q_nmI k) (q_MapTypes k) hF hd)
theorem q_CheckI : T_CheckI (tabK fsT (k + 3)) n_impl_CheckData := fun t d H hF hd => tabK_run (F := c_impl_CheckData) rfl (r_CheckI (q_parsed k) hF hd)
theorem q_DataNames : T_DataNames (tabK fsT (k + 4)) n_impl_DataNames := fun t d H hF hd => tabK_run (F := c_impl_DataNames) rfl (r_DataNames (q_CheckI k) (q_parsed (k + 1)) hF hd)
theorem q_recordOk : T_recordOk (tabK fsT (k + 4)) n_impl_recordOk := fun r H hF hl hd => tabK_run (F := c_impl_recordOk) rfl (r_recordOkG (q_NameOK (k + 1)) (q_within (k + 2)) (q_CheckI k) hF hl hd)
theorem q_validI : T_validI (tabK fsT (k + 5)) n_impl_validMessage := fun q a b c m H hF h hs => tabK_run (F := c_impl_validMessage) rfl (r_validI (q_NameOK (k + 2)) (q_within (k + 3)) (q_recordOk k) hF h hs)
theorem q_sound : T_sound (tabK fsT (k + 4)) n_spec_l04Sound := fun r H hl hd => tabK_run (F := c_spec_l04Sound) rfl (r_sound (q_NameOKs (k + 1)) (q_in (k + 2)) (q_CheckS k) hl hd)
theorem q_allSound : T_allSound (tabK fsT (k + 5)) n_spec_l04AllSound := fun a xs H h hn => tabK_run (F := c_spec_l04AllSound) rfl (r_allSound (q_sound k) h hn)
theorem q_validS : T_validS (tabK fsT (k + 6)) n_spec_l04Valid := fun q a b c m H h hs => tabK_run (F := c_spec_l04Valid) rfl (r_validS (q_NameOKs (k + 3)) (q_in (k + 4)) (q_allSound k) h hs)
theorem q_wtext : T_wtext (tabK fsT (k + 1)) n_spec_l04Text := fun n0 pid s t H h hl => tabK_run (F := c_spec_l04Text) rfl (r_wtext h hl)
theorem q_seen : T_seen (tabK fsT (k + 1)) n_spec_l04Seen := fun n0 pid s n H h hl => tabK_eq (F := c_spec_l04Seen) rfl (r_seen h hl)
theorem q_wname : T_wname (tabK fsT (k + 2)) n_spec_l04Name := fun n0 pid s n H h h1 h2 h3 h4 => tabK_run (F := c_spec_l04Name) rfl (r_wname (q_seen k) (q_put2 k) (q_wtext k) h h1 h2 h3 h4)
theorem q_pointed : T_pointed (tabK fsT (k + 1)) n_spec_l04Pointed := fun t H => tabK_eq (F := c_spec_l04Pointed) rfl (r_pointed)
theorem q_sflag : T_sflag (tabK fsT (k + 1)) n_spec_l04Flag := fun b j H hj => tabK_eq (F := c_spec_l04Flag) rfl (r_sflag hj)
theorem q_shead : T_shead (tabK fsT (k + 2)) n_spec_l04Head := fun h a b c d H hh ha hb hc hd => tabK_run (F := c_spec_l04Head) rfl (r_shead (q_sflag k) (q_put2 k) hh ha hb hc hd)
theorem q_squestion : T_squestion (tabK fsT (k + 3)) n_spec_l04Question := fun n0 pid s q H h hs hq hl => tabK_run (F := c_spec_l04Question) rfl (r_squestion (q_wname k) (q_put2 (k + 1)) (q_wtext (k + 1)) h hs hq hl)
theorem q_wrec : T_wrec (tabK fsT (k + 3)) n_spec_l04WriteRecord := fun n0 pid s r H h hs hq hl => tabK_run (F := c_spec_l04WriteRecord) rfl (r_wrec (q_wname k) (q_put2 (k + 1)) (q_put4 (k + 1)) (q_wtext (k + 1)) (q_pointed (k + 1)) (q_form (k + 1)) (q_parts k) h hs hq hl)
theorem q_swrite : T_write (tabK fsT (k + 4)) n_spec_l04Write := fun q a b c m H hF h hs hm => tabK_run (F := c_spec_l04Write) rfl (r_swrite (q_shead (k + 1)) (q_wtext (k + 2)) (q_squestion k) (q_wrec k) h hs hm)
theorem q_eflag : T_eflag (tabK fsT (k + 1)) n_impl_flag := fun b j H hj => tabK_eq (F := c_impl_flag) rfl (r_eflag hj)
theorem q_putU32 : T_putU32 (tabK fsT (k + 1)) n_binary_bigEndian_PutUint32 := fun id l n H h hl hn => tabK_run (F := c_binary_bigEndian_PutUint32) rfl (r_PutUint32 h hl hn)
theorem q_p32 : T_p32 (tabK fsT (k + 2)) n_impl_p32 := fun n H hn => tabK_run (F := c_impl_p32) rfl (r_p32 (q_putU32 k) hn)
theorem q_putW : T_putW (tabK fsT (k + 1)) n_impl_encoder_put := fun n0 pid s t H h hl => tabK_run (F := c_impl_encoder_put) rfl (r_putW h hl)
theorem q_ename : T_ename (tabK fsT (k + 1)) n_impl_encoder_name := fun n0 pid s n H h h1 h2 h3 => tabK_run (F := c_impl_encoder_name) rfl (r_ename h h1 h2 h3)
theorem q_hasP : T_hasP (tabK fsT (k + 1)) n_impl_hasPointers := fun t H => tabK_eq (F := c_impl_hasPointers) rfl (r_hasPointers)
theorem q_erec : T_erec (tabK fsT (k + 5)) n_impl_encoder_record := fun H0 pid s r H hF he h hs hq hl => tabK_run (F := c_impl_encoder_record) rfl (r_erec (q_ename (k + 3)) (q_p16 (k + 3)) (q_p32 (k + 2)) (q_putW (k + 3)) (q_hasP (k + 3)) (q_DataNames k) hF he h hs hq hl)
theorem q_ewrite : T_write (tabK fsT (k + 6)) n_impl_encoded := fun q a b c m H hF h hs hm => tabK_run (F := c_impl_encoded) rfl (r_ewrite (q_eflag (k + 4)) (q_p16 (k + 4)) (q_putW (k + 4)) (q_ename (k + 4)) (q_erec k) hF h hs hm)
theorem q_copyI : T_copyM (tabK fsT (k + 1)) n_impl_copyMessage := fun q a b c m H h hs => tabK_run (F := c_impl_copyMessage) rfl (r_copyI h hs)
theorem q_dropI : T_drop (tabK fsT (k + 1)) n_impl_dropRun := fun a xs keep H h hc hn => tabK_run (F := c_impl_dropRun) rfl (r_dropI h hc hn)
theorem q_TruncI : T_Trunc (tabK fsT (k + 7)) n_impl_Truncate := fun q a b c m bud H hF h hs => tabK_run (F := c_impl_Truncate) rfl (r_TruncI (q_validI (k + 1)) (q_copyI (k + 5)) (q_ewrite k) (q_dropI (k + 5)) hF h hs)
theorem q_join : T_join (tabK fsT (k + 1)) n_spec_l06Join := fun a b xs ys H ha hc hb hd hn => tabK_run (F := c_spec_l06Join) rfl (r_join ha hc hb hd hn)
theorem q_dropS : T_drop (tabK fsT (k + 2)) n_spec_l13Drop := fun a xs keep H h hc hn => tabK_run (F := c_spec_l13Drop) rfl (r_dropS (q_join k) h hc hn)
theorem q_copyS : T_copyM (tabK fsT (k + 2)) n_spec_l13CopyMessage := fun q a b c m H h hs => tabK_run (F := c_spec_l13CopyMessage) rfl (r_copyS (q_join k) h hs)
theorem q_truncS : T_truncB (tabK fsT (k + 5)) n_spec_l13Truncate := fun q a b c m bud n0 H hF h hn0 hs hm => tabK_run (F := c_spec_l13Truncate) rfl (r_truncS (q_swrite k) (q_dropS (k + 2)) hF h hn0 hs hm)
theorem q_TruncS : T_Trunc (tabK fsT (k + 7)) n_spec_Truncate := fun q a b c m bud H hF h hs => tabK_run (F := c_spec_Truncate) rfl (r_TruncS (q_validS k) (q_copyS (k + 4)) (q_truncS (k + 1)) hF h hs)
theorem q_szQuestion : T_sz (tabK fsT (k + 1)) n_laws_szQuestion eQ w_Question pre_Question := fun x left H h hl hd => tabK_eq (F := c_laws_szQuestion) rfl (r_szQuestion h hl hd)
theorem q_toQuestion : T_to (tabK fsT (k + 1)) n_laws_toQuestion eQ := fun x H => tabK_eq (F := c_laws_toQuestion) rfl r_toQuestion
theorem q_eqQuestion : T_eq (tabK fsT (k + 1)) n_laws_eqQuestion eQ := fun x H => tabK_eq (F := c_laws_eqQuestion) rfl r_eqQuestion
theorem q_szQuestionS : T_szS (tabK fsT (k + 2)) n_laws_szQuestionS eQ w_Question pre_Question := fun a xs left H h h0 hl hn hd => tabK_eq (F := c_laws_szQuestionS) rfl (r_szS rfl (q_szQuestion k) h h0 hl hn hd)
theorem q_toQuestionS : T_toS (tabK fsT (k + 2)) n_laws_toQuestionS eQ := fun a xs H h hn => tabK_run (F := c_laws_toQuestionS) rfl (r_toS rfl rfl (q_toQuestion k) h (by decide) hn)
theorem q_eqQuestionS : T_eqS (tabK fsT (k + 2)) n_laws_eqQuestionS eQ := fun a b xs H h h' hn => tabK_eq (F := c_laws_eqQuestionS) rfl (r_eqS rfl (q_eqQuestion k) h h' hn)
theorem q_szRR : T_sz (tabK fsT (k + 1)) n_laws_szRR eR w_RR pre_RR := fun x left H h hl hd => tabK_eq (F := c_laws_szRR) rfl (r_szRR h hl hd)
theorem q_toRR : T_to (tabK fsT (k + 1)) n_laws_toRR eR := fun x H => tabK_eq (F := c_laws_toRR) rfl r_toRR
theorem q_eqRR : T_eq (tabK fsT (k + 1)) n_laws_eqRR eR := fun x H => tabK_eq (F := c_laws_eqRR) rfl r_eqRR
theorem q_szRRS : T_szS (tabK fsT (k + 2)) n_laws_szRRS eR w_RR pre_RR := fun a xs left H h h0 hl hn hd => tabK_eq (F := c_laws_szRRS) rfl (r_szS rfl (q_szRR k) h h0 hl hn hd)
theorem q_toRRS : T_toS (tabK fsT (k + 2)) n_laws_toRRS eR := fun a xs H h hn => tabK_run (F := c_laws_toRRS) rfl (r_toS rfl rfl (q_toRR k) h (by decide) hn)
theorem q_eqRRS : T_eqS (tabK fsT (k + 2)) n_laws_eqRRS eR := fun a b xs H h h' hn => tabK_eq (F := c_laws_eqRRS) rfl (r_eqS rfl (q_eqRR k) h h' hn)
theorem q_toHead : T_to (tabK fsT (k + 1)) n_laws_toHead eH := fun x H => tabK_eq (F := c_laws_toHead) rfl r_toHead
theorem q_eqHead : T_eq (tabK fsT (k + 1)) n_laws_eqHead eH := fun x H => tabK_eq (F := c_laws_eqHead) rfl r_eqHead
theorem q_markText : T_mt (tabK fsT (k + 1)) n_laws_markText := fun j H hj => by
  obtain ⟨v, H', h1, rfl, h2⟩ := tabK_run (n := n_laws_markText) (F := c_laws_markText) (l := fsT) rfl (r_markText (C := tabK fsT k) (H := H) hj)
  exact ⟨H', h1, h2⟩
theorem q_markQuestionS : T_markS (tabK fsT (k + 2)) n_laws_markQuestionS eQ mk_Question 3 := fun a xs j H h hb => tabK_run (F := c_laws_markQuestionS) rfl (r_markQuestionS (q_markText k) h hb)
theorem q_markRRS : T_markS (tabK fsT (k + 2)) n_laws_markRRS eR mk_RR 5 := fun a xs j H h hb => tabK_run (F := c_laws_markRRS) rfl (r_markRRS (q_markText k) h hb)
theorem q_szMessage : T_szMessage (tabK fsT (k + 3)) n_laws_szMessage := fun q a b c m left H h hp h0 hl => tabK_eq (F := c_laws_szMessage) rfl (r_szMessage (q_szQuestionS k) (q_szRRS k) h hp h0 hl)
theorem q_toMessage : T_toMessage (tabK fsT (k + 3)) n_laws_toMessage := fun q a b c m H h hs => tabK_run (F := c_laws_toMessage) rfl (r_toMessage (q_toHead (k + 1)) (q_toQuestionS k) (q_toRRS k) h hs)
theorem q_eqMessage : T_eqMessage (tabK fsT (k + 3)) n_laws_eqMessage := fun q a b c q' a' b' c' m H h h' hs => tabK_eq (F := c_laws_eqMessage) rfl (r_eqMessage (q_eqHead (k + 1)) (q_eqQuestionS k) (q_eqRRS k) h h' hs)
theorem q_markMessage : T_markMessage (tabK fsT (k + 3)) n_laws_markMessage := fun q a b c m j n0 H h hs => tabK_run (F := c_laws_markMessage) rfl (r_markMessage (q_markQuestionS k) (q_markRRS k) h hs)
theorem q_heldQuestionS : T_heldS (tabK fsT (k + 2)) n_laws_heldQuestionS eQ mk_Question 3 := fun a j c H h hb => tabK_run (F := c_laws_heldQuestionS) rfl (r_heldQuestionS (q_markText k) h hb)
theorem q_heldRRS : T_heldS (tabK fsT (k + 2)) n_laws_heldRRS eR mk_RR 5 := fun a j c H h hb => tabK_run (F := c_laws_heldRRS) rfl (r_heldRRS (q_markText k) h hb)
theorem q_heldMessage : T_heldMessage (tabK fsT (k + 3)) n_laws_heldMessage := fun q a b c m j H h hs => tabK_run (F := c_laws_heldMessage) rfl (r_heldMessage (q_heldQuestionS k) (q_heldRRS k) h hs)
theorem law {q a b c : AV} {m : Msg} {bud : Int} {H : AH} (hF : FormsOK H) (h : MsgS H q a b c m) (hp : preM m) : ∃ H', tabK fsT 8 n_laws_FnExactTruncate [mV m.h q a b c, .i .i64 bud] H = some (.b true, H') := by
  obtain ⟨v, H', h1, rfl⟩ := tabK_run (n := n_laws_FnExactTruncate) (F := c_laws_FnExactTruncate) (l := fsT) rfl (r_law_Truncate (C := tabK fsT 7) (q_szMessage 4) (q_toMessage 4) (q_eqMessage 4) (q_markMessage 4) (q_heldMessage 4) (q_TruncS 0) (q_TruncI 0) hF h hp)
  exact ⟨H', h1⟩
end
end Tq
end Go.Vm

/- Opening a message that is an argument. -/
namespace Go.Vm
set_option linter.unusedVariables false
set_option linter.unusedSimpArgs false
section
variable {P : Program} {w : World} {H : Type} {enc : TypeId × Value → H}
theorem open_Question {m e : Nat} (hf : flatTy P m e = some [.s, .i .i64, .i .i64]) : ∀ n vals z, DataW.trod enc P w 0 (fun _ => true) true n e vals = some z → ∃ x : Qn, pre_Question x ∧ ∀ ρ, All2 (VA ρ) (eQ.fn x) vals := by
  intro n vals z hz
  obtain ⟨us, h1, h2⟩ := flat_open hf hz
  have hl := h1.len
  obtain ⟨u1, u2, u3, rfl⟩ : ∃ u1 u2 u3, us = [u1, u2, u3] := by
    match us, hl with
    | [u1, u2, u3], _ => exact ⟨u1, u2, u3, rfl⟩
  obtain ⟨⟨d, rfl, hd⟩, ⟨c, rfl, -⟩, ⟨c', rfl, -⟩, -⟩ := h1
  exact ⟨⟨d, c, c'⟩, hd, h2⟩
theorem open_RR {m e : Nat} (hf : flatTy P m e = some [.s, .i .i64, .i .i64, .i .i64, .s]) : ∀ n vals z, DataW.trod enc P w 0 (fun _ => true) true n e vals = some z → ∃ x : Rr, pre_RR x ∧ ∀ ρ, All2 (VA ρ) (eR.fn x) vals := by
  intro n vals z hz
  obtain ⟨us, h1, h2⟩ := flat_open hf hz
  have hl := h1.len
  obtain ⟨u1, u2, u3, u4, u5, rfl⟩ : ∃ u1 u2 u3 u4 u5, us = [u1, u2, u3, u4, u5] := by
    match us, hl with
    | [u1, u2, u3, u4, u5], _ => exact ⟨u1, u2, u3, u4, u5, rfl⟩
  obtain ⟨⟨d, rfl, hd⟩, ⟨c, rfl, -⟩, ⟨c', rfl, -⟩, ⟨c2, rfl, -⟩, ⟨d', rfl, hd'⟩, -⟩ := h1
  exact ⟨⟨d, c, c', c2, d'⟩, ⟨hd, hd'⟩, h2⟩
theorem open_Head {m e : Nat} (hf : flatTy P m e = some [.i .i64, .b, .i .i64, .b, .b, .b, .b, .b, .b, .b, .i .i64]) : ∀ n vals z, DataW.trod enc P w 0 (fun _ => true) true n e vals = some z → ∃ x : Hd, ∀ ρ, All2 (VA ρ) (eH.fn x) vals := by
  intro n vals z hz
  obtain ⟨us, h1, h2⟩ := flat_open hf hz
  have hl := h1.len
  obtain ⟨u1, u2, u3, u4, u5, u6, u7, u8, u9, u10, u11, rfl⟩ : ∃ u1 u2 u3 u4 u5 u6 u7 u8 u9 u10 u11, us = [u1, u2, u3, u4, u5, u6, u7, u8, u9, u10, u11] := by
    match us, hl with
    | [u1, u2, u3, u4, u5, u6, u7, u8, u9, u10, u11], _ => exact ⟨u1, u2, u3, u4, u5, u6, u7, u8, u9, u10, u11, rfl⟩
  obtain ⟨⟨a1, rfl, -⟩, ⟨a2, rfl⟩, ⟨a3, rfl, -⟩, ⟨a4, rfl⟩, ⟨a5, rfl⟩, ⟨a6, rfl⟩, ⟨a7, rfl⟩, ⟨a8, rfl⟩, ⟨a9, rfl⟩, ⟨a10, rfl⟩, ⟨a11, rfl, -⟩, -⟩ := h1
  exact ⟨⟨a1, a2, a3, a4, a5, a6, a7, a8, a9, a10, a11⟩, h2⟩
theorem okRow {base : Nat} {t : TypeId} {cs : Array Value} {ts : List TypeId} (h : Row.okWide P w .any base t cs) (hts : P.cellTypes P.depth t = some ts) (hsz : cs.size = ts.length) : ∀ (i : Nat) (v : Value) (u : TypeId), cs[i]? = some v → ts[i]? = some u → Cell.okWide P w .any base u v := by
  obtain ⟨ts', h1, -, h3⟩ := h
  rw [hts] at h1
  cases h1
  intro i v u hv hu
  obtain ⟨u', h4, h5⟩ := h3 i v hv
  have hi := (List.getElem?_eq_some_iff.1 hu).1
  rw [Nat.mod_eq_of_lt hi, hu] at h4
  cases h4
  exact h5
theorem take_one {α : Type} {l : List α} {i : Nat} (h : i < l.length) : (l.drop i).take 1 = [l[i]] := by
  rw [List.drop_eq_getElem_cons h]; rfl
/-- The numbers of a message's types. -/
structure MsgTy (P : Program) (tM tH tQ tR eq er : TypeId) : Prop where
  fs : ∃ f0 f1 f2 f3 f4 : Field, P.underlying tM = some (.struct #[f0, f1, f2, f3, f4]) ∧ (f0.type = tH ∧ f0.offset = 0) ∧ (f1.type = tQ ∧ f1.offset = 11) ∧ (f2.type = tR ∧ f2.offset = 12) ∧ (f3.type = tR ∧ f3.offset = 13) ∧ (f4.type = tR ∧ f4.offset = 14)
  cM : P.cellsOf tM = 15
  cH : P.cellsOf tH = 11
  cQ : P.cellsOf tQ = 1
  cR : P.cellsOf tR = 1
  fH : flatTy P 4 tH = some [.i .i64, .b, .i .i64, .b, .b, .b, .b, .b, .b, .b, .i .i64]
  uQ : P.underlying tQ = some (.slice eq)
  uR : P.underlying tR = some (.slice er)
  zq : P.cellsOf eq = 3
  zr : P.cellsOf er = 5
  fq : flatTy P 4 eq = some [.s, .i .i64, .i .i64]
  fr : flatTy P 4 er = some [.s, .i .i64, .i .i64, .i .i64, .s]
  ts : ∃ ts, P.cellTypes P.depth tM = some ts ∧ ts.length = 15 ∧ ts[11]? = some tQ ∧ ts[12]? = some tR ∧ ts[13]? = some tR ∧ ts[14]? = some tR
theorem Fst.msg {base : Nat} {ρ0 : Rn} {H0 : AH} (F : Fst P ρ0 H0 w) {tM tH tQ tR eq er : TypeId} (T : MsgTy P tM tH tQ tR eq er) {v : Value} {d : DataW H} {ps : List MemPlace}
    (hval : Value.okWide P w .any base tM v) (hd : DataW.Trod enc P w 0 (fun _ => true) true tM v d ps) :
    ∃ ρ Hh q a b c m, Fst P ρ Hh w ∧ ρ0.Le ρ ∧ Ext H0 Hh ∧ V1 ρ (mV m.h q a b c) v ∧ MsgS Hh q a b c m ∧ preM m := by
  obtain ⟨f0, f1, f2, f3, f4, hM, ⟨y0, z0⟩, ⟨y1, z1⟩, ⟨y2, z2⟩, ⟨y3, z3⟩, ⟨y4, z4⟩⟩ := T.fs
  obtain ⟨ts, hts, htl, t11, t12, t13, t14⟩ := T.ts
  unfold Value.okWide at hval
  rw [hM] at hval
  obtain ⟨cs, rfl, hsz, hrow⟩ := hval
  rw [T.cM] at hsz
  have hcell := okRow hrow hts (by omega)
  obtain ⟨fuel, hd⟩ := hd
  have hd' : DataW.trod enc P w 0 (fun _ => true) true fuel tM cs.toList = some (d, ps) := hd
  obtain ⟨xs, n, -, -, hl, hxl, hf⟩ := DataW.trod_struct hM hd'
  have hl' : cs.toList.length = 15 := by simpa using hsz
  have hx : xs.length = 5 := hxl
  have g0 := hf 0 f0 rfl
  have g1 := hf 1 f1 rfl
  have g2 := hf 2 f2 rfl
  have g3 := hf 3 f3 rfl
  have g4 := hf 4 f4 rfl
  rw [y0, z0, T.cH, List.drop_zero, List.getElem?_eq_getElem (by omega)] at g0
  rw [y1, z1, T.cQ, take_one (by omega), List.getElem?_eq_getElem (by omega)] at g1
  rw [y2, z2, T.cR, take_one (by omega), List.getElem?_eq_getElem (by omega)] at g2
  rw [y3, z3, T.cR, take_one (by omega), List.getElem?_eq_getElem (by omega)] at g3
  rw [y4, z4, T.cR, take_one (by omega), List.getElem?_eq_getElem (by omega)] at g4
  obtain ⟨hd, h0⟩ := open_Head T.fH _ _ _ g0
  obtain ⟨ρ1, H1, q, lq, F1, le1, e1, r1, b1, n1, p1⟩ := F.slice (E := eQ) (pre := pre_Question) T.uQ T.zq (by decide) (open_Question T.fq) (hcell 11 _ _ (by simp) t11) g1
  obtain ⟨ρ2, H2, a, la, F2, le2, e2, r2, b2, n2, p2⟩ := F1.slice (E := eR) (pre := pre_RR) T.uR T.zr (by decide) (open_RR T.fr) (hcell 12 _ _ (by simp) t12) g2
  obtain ⟨ρ3, H3, b, lb, F3, le3, e3, r3, b3, n3, p3⟩ := F2.slice (E := eR) (pre := pre_RR) T.uR T.zr (by decide) (open_RR T.fr) (hcell 13 _ _ (by simp) t13) g3
  obtain ⟨ρ4, H4, c, lc, F4, le4, e4, r4, b4, n4, p4⟩ := F3.slice (E := eR) (pre := pre_RR) T.uR T.zr (by decide) (open_RR T.fr) (hcell 14 _ _ (by simp) t14) g4
  refine ⟨ρ4, H4, q, a, b, c, ⟨hd, lq, la, lb, lc⟩, F4, ((le1.trans le2).trans le3).trans le4, ((e1.trans e2).trans e3).trans e4, ⟨cs, rfl, ?_⟩,
    ⟨Sl.ext b1 ((e2.trans e3).trans e4), Sl.ext b2 (e3.trans e4), Sl.ext b3 e4, b4⟩, ⟨⟨n1, p1⟩, ⟨n2, p2⟩, ⟨n3, p3⟩, ⟨n4, p4⟩⟩⟩
  have e : cs.toList = cs.toList.take 11 ++ [cs.toList[11], cs.toList[12], cs.toList[13], cs.toList[14]] := by
    conv => lhs; rw [← List.take_append_drop 11 cs.toList]
    rw [List.drop_eq_getElem_cons (by omega), List.drop_eq_getElem_cons (by omega), List.drop_eq_getElem_cons (by omega), List.drop_eq_getElem_cons (by omega), List.drop_of_length_le (by omega)]
  rw [e]
  refine All2.append (l := eH.fn hd) (l' := [q, a, b, c]) (h0 ρ4) ⟨VA.of (VP.mono ((le2.trans le3).trans le4) r1), VA.of (VP.mono (le3.trans le4) r2), VA.of (VP.mono le4 r3), VA.of r4, trivial⟩
end
end Go.Vm

/- The program's table of forms, as a row finds it: a map in some order. -/
namespace Go.Vm
set_option linter.unusedVariables false
set_option linter.unusedSimpArgs false
open Go.ChangeShapes Go.WideShapes Go.ChangeAt Go.RowKit Go.WideElems
def formsD {H : Type} : List (Lit × DataW H) := formsL.map fun e => (.int .i64 e.1, .lit (.string e.2))
theorem gForms_at : Go.Proofs.Tryd.prog.globalNamed "loop.example/s01858/impl.forms" = some 1 := by kernel_rfl
theorem tForms_at : (Go.Proofs.Tryd.prog.globals[1]?).map (·.type) = some 179 := by kernel_rfl
theorem formsEs_fun : ∀ e e', e ∈ formsEs → e' ∈ formsEs → e.1.toI = e'.1.toI → e.2 = e'.2 := by
  intro e e' h h' hh
  have : ∀ e ∈ formsEs, ∀ e' ∈ formsEs, e.1.toI = e'.1.toI → e.2 = e'.2 := by
    intro e he e' he' 
    simp only [formsEs, formsL, List.map_cons, List.map_nil, List.mem_cons, List.not_mem_nil, or_false] at he he'
    rcases he with rfl | rfl | rfl | rfl | rfl | rfl | rfl | rfl | rfl | rfl | rfl | rfl | rfl | rfl <;>
    rcases he' with rfl | rfl | rfl | rfl | rfl | rfl | rfl | rfl | rfl | rfl | rfl | rfl | rfl | rfl <;>
    first | exact fun _ => rfl | (intro h; exact absurd h (by decide))
  exact this e h e' h' hh
theorem forms_open {Hh : Type} {enc : TypeId × Value → Hh} {W : World} {sp : Nat → Bool} {held : Bool} {fuel : Nat} {cs : List Value} {p : List MemPlace}
    (hd : DataW.trod enc Go.Proofs.Tryd.prog W 0 sp held fuel 179 cs = some (.map formsD, p)) :
    ∃ b es clk, cs = [.map (some b)] ∧ W.heap[b]? = some (.map es clk) ∧ ∃ ls : List (AV × AV), (∀ ρ, All2 (EntR ρ) ls es.toList) ∧ (∀ e, e ∈ ls → e ∈ formsEs) ∧ (∀ e, e ∈ formsEs → e ∈ ls) := by
  rcases open_map Go.Proofs.Tryd.underlying179 hd with ⟨_, hx⟩ | ⟨b, es, clk, m, rfl, rfl, hb, _, F, hx⟩
  · cases hx
  simp only [Prod.mk.injEq, DataW.map.injEq] at hx
  have hmem : ∀ y, y ∈ es.toList.map (rg Go.Proofs.Tryd.prog 2 (elemAt enc Go.Proofs.Tryd.prog W 0 sp held m 9)) ↔ y ∈ formsD := fun y => by rw [hx.1]; exact Go.mem_sorted.symm
  have one : ∀ x, x ∈ es.toList → ∃ e, e ∈ formsL ∧ rg Go.Proofs.Tryd.prog 2 (elemAt enc Go.Proofs.Tryd.prog W 0 sp held m 9) x = (.int .i64 e.1, .lit (.string e.2)) ∧ x.key = .int .i64 e.1 ∧ x.val = .string ⟨e.2.toArray⟩ := by
    intro x hxe
    obtain ⟨y, hy⟩ := F.reads x hxe
    have hrg := rg_of hy
    have := (hmem y).1 (hrg ▸ List.mem_map_of_mem hxe)
    obtain ⟨e, he, rfl⟩ := List.mem_map.1 this
    have hk := rd_key hy
    obtain ⟨z, hz, hz2⟩ := rd_val hy
    refine ⟨e, he, hrg, ?_, ?_⟩
    · unfold keyOf at hk
      rw [Go.Proofs.Tryd.underlying2] at hk
      simp only at hk
      unfold mapKey at hk
      rw [Go.Proofs.Tryd.underlying2] at hk
      generalize x.key = kv at hk
      cases kv <;> simp at hk
      obtain ⟨⟨rfl, -⟩, rfl⟩ := hk
      rfl
    · unfold elemAt at hz
      split at hz
      · rename_i hf
        obtain ⟨s, hs, hs2, -⟩ := DataW.trod_string Go.Proofs.Tryd.underlying9 hz
        subst hs2
        have hv : x.val = .string s := by
          generalize x.val = v at hs hf
          cases v <;> simp [Value.formed, Go.Proofs.Tryd.underlying9, Value.cells] at hf hs
          subst hs; rfl
        simp only [DataW.lit.injEq, Lit.string.injEq] at hz2
        rw [hv, hz2]
      · cases hz
  let φ : MapEntry → AV × AV := fun x => (.i .i64 (match x.key with | .int _ n => n | _ => 0), .s (match x.val with | .string s => s.data.toList | _ => []))
  have hφ : ∀ x, x ∈ es.toList → ∃ e, e ∈ formsL ∧ rg Go.Proofs.Tryd.prog 2 (elemAt enc Go.Proofs.Tryd.prog W 0 sp held m 9) x = (.int .i64 e.1, .lit (.string e.2)) ∧ φ x = (.i .i64 e.1, .s e.2) ∧ ∀ ρ, EntR ρ (φ x) x := by
    intro x hxe
    obtain ⟨e, h1, h2, h3, h4⟩ := one x hxe
    have hp : φ x = (.i .i64 e.1, .s e.2) := by simp only [φ, h3, h4]
    refine ⟨e, h1, h2, hp, fun ρ => ?_⟩
    rw [hp]
    exact ⟨(show x.key = _ from h3), (show x.val = _ from h4)⟩
  refine ⟨b, es, clk, rfl, hb, es.toList.map φ, fun ρ => ?_, fun e he => ?_, fun e he => ?_⟩
  · rw [All2.map]
    have : ∀ l : List MapEntry, (∀ x, x ∈ l → x ∈ es.toList) → All2 (fun x y => EntR ρ (φ x) y) l l := by
      intro l
      induction l with
      | nil => intro _; trivial
      | cons x l ih =>
        intro h
        obtain ⟨e, -, -, -, h4⟩ := hφ x (h x (by simp))
        exact ⟨h4 ρ, ih fun y hy => h y (by simp [hy])⟩
    exact this _ fun x hx => hx
  · obtain ⟨x, hxe, rfl⟩ := List.mem_map.1 he
    obtain ⟨e, h1, -, h3, -⟩ := hφ x hxe
    rw [h3]
    exact List.mem_map.2 ⟨e, h1, rfl⟩
  · obtain ⟨e0, h0, rfl⟩ := List.mem_map.1 he
    have : ((.int .i64 e0.1, .lit (.string e0.2)) : Lit × DataW Hh) ∈ formsD := List.mem_map.2 ⟨e0, h0, rfl⟩
    obtain ⟨x, hxe, hrx⟩ := List.mem_map.1 ((hmem _).2 this)
    obtain ⟨e, h1, h2, h3, -⟩ := hφ x hxe
    rw [hrx] at h2
    simp only [Prod.mk.injEq, Lit.int.injEq, DataW.lit.injEq, Lit.string.injEq, true_and] at h2
    refine List.mem_map.2 ⟨x, hxe, ?_⟩
    rw [h3, h2.1, h2.2]
/-- The first heap: the table's variable, and the table. -/
theorem forms_first {laid : List (String × DataW Unit)} {W : World} (hl : laid = [("loop.example/s01858/impl.forms", .map formsD)]) (hL : laidMetH Go.Proofs.Tryd.prog laid W) :
    ∃ ρ H, Fst Go.Proofs.Tryd.prog ρ H W ∧ FormsOK H := by
  subst hl
  rw [MakeChecks.laidMetH_plain _ _ _ rfl] at hL
  obtain ⟨ps, ⟨g, t, cs, f0, p0, q0, hg, ht, hv, hd, _, _⟩, _, _⟩ := hL
  obtain rfl := Option.some.inj (gForms_at.symm.trans hg)
  obtain rfl := Option.some.inj (tForms_at.symm.trans ht)
  obtain ⟨b, es, clk, hcs, hb, ls, h1, h2, h3⟩ := forms_open hd
  obtain ⟨ty, fz, hg1⟩ : ∃ ty fz, W.heap[1]? = some (.cells cs ty fz) := by
    unfold World.var? at hv
    rw [hg] at hv
    simp only [Option.bind_some] at hv
    split at hv
    · rename_i c ty fz hc
      cases hv
      exact ⟨ty, fz, hc⟩
    · cases hv
  have hG : 1 < Go.Proofs.Tryd.prog.globals.size := by
    cases h : Go.Proofs.Tryd.prog.globals[1]? with
    | none => rw [h] at ht; cases ht
    | some x => exact (Array.getElem?_eq_some_iff.1 h).1
  obtain ⟨F1, le1⟩ := (Fst.first1 (P := Go.Proofs.Tryd.prog) (w := W) fun _ => cs.size).map hb (h1 _)
  obtain ⟨F2, le2⟩ := F1.glob1 (g := 1) (x := .mp Go.Proofs.Tryd.prog.globals.size) (show 1 < Go.Proofs.Tryd.prog.globals.size + 1 by omega) (by simp only [Rn.addO, rn1]; rw [if_pos hG]) hg1 hcs ⟨b, by simp [Rn.addO], rfl⟩
  refine ⟨_, _, F2, ⟨false, Go.Proofs.Tryd.prog.globals.size, ls, set_at, ?_, (show 1 < Go.Proofs.Tryd.prog.globals.size + 1 by omega), (show Go.Proofs.Tryd.prog.globals.size < Go.Proofs.Tryd.prog.globals.size + 1 by omega), fun e he => ?_, fun t => ?_⟩⟩
  · rw [set_ne (by omega)]
    exact new_at (H := ⟨Go.Proofs.Tryd.prog.globals.size, fun _ => .no⟩)
  · obtain ⟨e0, -, rfl⟩ := List.mem_map.1 (h2 e he)
    rfl
  · refine mpFind_same h2 h3 fun e e' he he' hk hk' => formsEs_fun e e' he he' ?_
    obtain ⟨e0, -, rfl⟩ := List.mem_map.1 he
    obtain ⟨e1, -, rfl⟩ := List.mem_map.1 he'
    simp only [AV.cells, cellsEq, cellEq, Bool.and_true, decide_eq_true_eq] at hk hk'
    simp only [AV.toI]
    omega
end Go.Vm

/- The law of Truncate returns true whatever its arguments, and leaves them and the table of forms as they were. -/
namespace Go.Proofs.YtfamnghjibckbaaDoor
open Go.ChangeShapes Go.WideShapes Go.ChangeAt Go.RowKit
namespace fnExactTruncate
theorem own : ownKnob Tryd.prog.godebug = none := by kernel_rfl
theorem laidOut : laidOutB Tryd.prog = true := by kernel_rfl
/-- A table's variable reads as it did. -/
theorem varsStay {H : Type} {enc : TypeId × Value → H} {W W' : World} {gs : List (DataW H)} {q : List MemPlace} (hb : Below W.heap.size W W') (hV : DataW.TrodVars enc Tryd.prog W (fun _ => true) ["loop.example/s01858/impl.forms"] gs q) (hlt : ∀ p, p ∈ q → p.block < W.heap.size) {sp : Nat → Bool} (hsp : ∀ p, p ∈ q → sp p.block = true) :
    DataW.TrodVars enc Tryd.prog W' sp ["loop.example/s01858/impl.forms"] gs q := by
  obtain ⟨g, t, cs, fuel, d, p, rfl, hg, ht, hv, hd, rfl⟩ := trodVars_one hV
  obtain rfl := Option.some.inj (Vm.gForms_at.symm.trans hg)
  obtain rfl := Option.some.inj (Vm.tForms_at.symm.trans ht)
  refine trodVars_mk1 hg ht ?_ (DataW.trod_stays (kids_book laidOut (by kernel_rfl)) (book_sized (by kernel_rfl)) (fun h => by cases h) ⟨of_decide_eq_true (by kernel_rfl), book_self _⟩ hd (fun x hx => hb.same (hlt x (List.mem_append_right _ hx))) fun x hx => hsp x (List.mem_append_right _ hx))
  unfold World.var? at hv ⊢
  rw [hg] at hv ⊢
  simp only [Option.bind_some] at hv ⊢
  have h1 : 1 < W.heap.size := by
    cases h : W.heap[1]? with
    | none => rw [h] at hv; cases hv
    | some x => exact (Array.getElem?_eq_some_iff.1 h).1
  rw [hb.block 1 h1]
  exact hv
theorem mty : Vm.MsgTy Tryd.prog 51 47 48 49 124 126 := ⟨⟨_, _, _, _, _, Tryd.underlying51, ⟨rfl, rfl⟩, ⟨rfl, rfl⟩, ⟨rfl, rfl⟩, ⟨rfl, rfl⟩, ⟨rfl, rfl⟩⟩, by kernel_rfl, by kernel_rfl, by kernel_rfl, by kernel_rfl, by kernel_rfl, Tryd.underlying48, Tryd.underlying49, by kernel_rfl, by kernel_rfl, by kernel_rfl, by kernel_rfl,
  ⟨[2, 4, 2, 4, 4, 4, 4, 4, 4, 4, 2, 48, 49, 49, 49], by kernel_rfl, rfl, rfl, rfl, rfl, rfl⟩⟩
set_option maxRecDepth 100000 in
theorem contract (H : Type) (enc : TypeId × Value → H) (W : World) (base : Nat) (args : Array Value) (ds gs : List (DataW H)) (before : List MemPlace)
    (hval : ∀ (j : Nat) t v, Tryd.f4.params[j]? = some t → args[j]? = some v → Value.okWide Tryd.prog W .any base t v)
    (hW : DataW.Whole enc Tryd.prog Tryd.f4.params.toList Rows.fnExactTruncateSpec.vars false W args.toList ds gs before) (hL : laidMetH Tryd.prog Rows.fnExactTruncateRow.laid W) :
    Calls Tryd.prog 4 args W fun e W' => ∃ v, e = .returned v ∧ Rows.fnExactTruncateSpec.post enc Tryd.prog Tryd.f4 false true false false W args v W' := by
  have hW' := hW
  obtain ⟨p, q, hA0, hV0, rfl, hfz, hnd⟩ := hW
  have hA : DataW.TrodAll enc Tryd.prog W 0 (fun _ => true) true Tryd.f4.params.toList args.toList ds p := hA0
  have hV : DataW.TrodVars enc Tryd.prog W (fun _ => true) ["loop.example/s01858/impl.forms"] gs q := hV0
  rw [Tryd.params4] at hA hval
  obtain ⟨v0, vs0, d0, ds0, p0, q0, hargs, rfl, rfl, h0, hr0⟩ := trodAll_cons hA
  obtain ⟨v1, vs1, d1, ds1, p1, q1, rfl, rfl, rfl, h1, hr1⟩ := trodAll_cons hr0
  obtain ⟨rfl, rfl, rfl⟩ := trodAll_nil hr1
  obtain ⟨rfl⟩ : args = #[v0, v1] := by cases args; simp_all
  obtain ⟨m1, rfl⟩ := okWide_int Tryd.underlying2 (hval 1 2 v1 rfl rfl)
  obtain ⟨g, t, cs, fuel, d, pv, rfl, -⟩ := trodVars_one hV
  obtain ⟨ρ0, H0, F0, hF0⟩ := Vm.forms_first rfl hL
  obtain ⟨ρ, Hh, mq, ma, mb, mc, m, F, le, e1, r1, b1, b2⟩ := F0.msg mty (hval 0 51 v0 rfl rfl) h0
  obtain ⟨H', hlaw⟩ := Vm.Tq.law (bud := m1) (hF0.ext e1) b1 b2
  have hcall := (Vm.tabK_ok Vm.fsT_ok Vm.mixed 8 _ _ _ _ _ hlaw).2 ρ W #[v0, .int .i64 m1] F.heap F.glob ⟨r1, (rfl : Value.int .i64 m1 = _), trivial⟩
  refine hcall.mono fun e W' hR => ?_
  cases e with
  | panicked _ => exact hR.elim
  | outgrown => exact hR.elim
  | returned r =>
    obtain ⟨ρ', hs, hv, -⟩ := hR
    have hr : r = .bool true := hv
    subst hr
    have hb := hs.below F
    have hlt := hW'.lt
    refine ⟨_, rfl, Vm.post_below (pa := _) (pv := q) hW' (fun _ _ _ => trodAll_mk1 (shut_bool Tryd.underlying4 _)) (fun sp hsp => ?_) (fun sp hsp => ?_) rfl hb (ok_one (by kernel_rfl) rfl (okWide_bool_mk Tryd.underlying4 _))⟩
    · refine Vm.trodAll_stays laidOut hb (fun t ht => ?_) hA0 (fun x hx => hlt x (List.mem_append_left _ hx)) (fun x hx => hsp x (List.mem_append_left _ hx))
      rw [Tryd.params4] at ht
      have : t = 51 ∨ t = 2 := by simpa using ht
      rcases this with rfl | rfl
      · exact ⟨by kernel_rfl, of_decide_eq_true (by kernel_rfl)⟩
      · exact ⟨by kernel_rfl, of_decide_eq_true (by kernel_rfl)⟩
    · exact varsStay hb hV (fun x hx => hlt x (List.mem_append_right _ hx)) (fun x hx => hsp x (List.mem_append_right _ hx))
/-- The door's own heap meets the condition. -/
theorem door_met (os : Os) (args : Array Value) : laidMetH Tryd.prog Rows.fnExactTruncateRow.laid ((World.doorLaid Tryd.prog 400 os).forCall (fun _ _ => 0) ⟨#[], args, []⟩).memory :=
  laidMetH_of_parts3 (fuel := 8) (laidMet_of_run' 8 (by kernel_rfl) (by kernel_rfl)) (by kernel_rfl) (by kernel_rfl)
set_option maxRecDepth 100000 in
theorem lifted (os : Os) (started : os.Started) (H : Type) (enc : TypeId × Value → H) :
    ReturnsInHanded {} Tryd.checked os 4 .any (fun w args => (Rows.fnExactTruncateSpec.pre enc Tryd.prog Tryd.f4 [] false w args ∧ laidMetH Tryd.prog Rows.fnExactTruncateRow.laid w) ∧ sizedMet enc Tryd.prog Tryd.f4 (OpenSpec.ofChange Rows.fnExactTruncateSpec) false w args)
      (Rows.fnExactTruncateSpec.post enc Tryd.prog Tryd.f4 false true false false) := by
  refine returnsInHanded_of_change_and (C := Tryd.checked) (X := fun w _ => laidMetH Tryd.prog Rows.fnExactTruncateRow.laid w) (fun _ _ _ hh h => h.of_heap hh) own started (by kernel_rfl) Tryd.func4
    (ChangeSpec.witness_shaped (enc := enc) (C := Tryd.checked) (os := os) (X := fun w _ => laidMetH Tryd.prog Rows.fnExactTruncateRow.laid w) false (World.doorLaid Tryd.prog 400 os) #[.agg #[.int .i64 0, .bool false, .int .i64 0, .bool false, .bool false, .bool false, .bool false, .bool false, .bool false, .bool false, .int .i64 0, .slice none 0 0, .slice none 0 0, .slice none 0 0, .slice none 0 0], .int .i64 0] 8 rfl (World.shaped_of_RefB (by kernel_rfl) (by kernel_rfl)) (by kernel_rfl) (by kernel_rfl) (by kernel_rfl) (door_met os _)) ?_
  intro W base args ds gs before hval hW _ _ hL _
  exact contract H enc W base args ds gs before hval hW hL
theorem said : Rows.FnExactTruncateSaid :=
  OpenClaim.holds_of_wide 4 Tryd.f4 rfl rfl rfl rfl rfl rfl rfl ⟨rfl, rfl, rfl, rfl, rfl⟩ rfl rfl rfl rfl rfl (by kernel_rfl) Tryd.func4 (by kernel_rfl)
    (of_decide_eq_true (by kernel_rfl)) (by unfold Func.isWrapper; first | (rw [if_pos (by decide +kernel)]; kernel_rfl) | (rw [if_neg (by decide +kernel)]; exact ⟨rfl, rfl⟩))
    (fun os started H enc _ => lifted os started H enc)
theorem proved : Rows.FnExactTruncateCardSaid :=
  Claim7.holds_tied_plain_at .later [] [.mapped] true (true, "13f9e3eae6e9af9a5c580f949ac881abfaab5008fc39d082f2d373462b7b5f27") false
    said (fun _ h => by cases h) (by kernel_rfl) (fun _ h => by cases h) fnExactTruncate_row_tie rfl ⟨rfl, rfl⟩ (by kernel_rfl) rfl
    (fun f fn hf hfn => by
      obtain rfl : f = 4 := Option.some.inj ((show Tryd.prog.funcNamed "loop.example/s01858/laws.FnExactTruncate" = some 4 by kernel_rfl).symm.trans hf) |>.symm
      obtain rfl : fn = Tryd.f4 := (Option.some.inj (Tryd.func4.symm.trans hfn)).symm
      exact ⟨by kernel_rfl, fun j t ht => by
        rw [Tryd.params4] at ht
        have hm : t ∈ [51, 2] := by simpa using Array.mem_of_getElem? ht
        have hall : ([51, 2].all fun u => !Tryd.prog.wantsStandIn u) = true := by kernel_rfl
        exact (show Tryd.prog.wantsStandIn t = false by simpa using List.all_eq_true.1 hall t hm)⟩)
    (by kernel_rfl)
end fnExactTruncate
end Go.Proofs.YtfamnghjibckbaaDoor
