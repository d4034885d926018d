import Derived.Test.YtgoalfkgbiblgaaGreatDoorKb14
import Derived.Test.YtgoalfkgbiblgaaGreatDoorRows
import Derived.JoinedCond
/- fnExactDiffZones: what a call comes to, whatever its arguments, and the row's form. -/
set_option linter.unusedVariables false
set_option linter.unusedSimpArgs false
set_option maxRecDepth 100000
namespace Go.Proofs.YtgoalfkgbiblgaaGreatDoor
open Go.ChangeShapes Go.WideShapes Go.ChangeAt Go.RowKit
namespace fnExactDiffZones
theorem own:ownKnob Tryz.prog.godebug=none:=by kernel_rfl
theorem laidOut:laidOutB Tryz.prog=true:=by kernel_rfl
theorem Jm2 {H:Type} {enc:TypeId×Value→H} {W W':World} {gs:List (DataW H)} {q:List MemPlace} (hb:Below W.heap.size W W') (hV:DataW.TrodVars enc Tryz.prog W (fun _=>true) ["loop.example/s01858/impl.forms"] gs q) (hlt: ∀ p,p∈q→p.block < W.heap.size) {sp:Nat→Bool} (hsp: ∀ p,p∈q→sp p.block=true):
  DataW.TrodVars enc Tryz.prog W' sp ["loop.example/s01858/impl.forms"] gs q:=by
 obtain ⟨g,t,cs,fuel,d,p,rfl,hg,ht,hv,hd,rfl⟩:=trodVars_one hV;obtain rfl:=Option.some.inj (Vm.gForms_at.symm.trans hg);obtain rfl:=Option.some.inj (Vm.tForms_at.symm.trans ht);refine trodVars_mk1 hg ht ?_ (DataW.trod_stays (kids_book laidOut (by kernel_rfl)) (book_sized (by kernel_rfl)) (fun h=>by cases h) ⟨of_decide_eq_true (by kernel_rfl),book_self _⟩ hd (fun x hx=>hb.same (hlt x (List.mem_append_right _ hx))) fun x hx=>hsp x (List.mem_append_right _ hx))
 unfold World.var? at hv ⊢;rw [hg] at hv ⊢;simp only [Option.bind_some] at hv ⊢
 have h1:1 < W.heap.size:=by
  cases h:W.heap[1]? with
  | none=>rw [h] at hv;cases hv
  | some x=>exact (Array.getElem?_eq_some_iff.1 h).1
 rw [hb.block 1 h1];exact hv
theorem zty:Vm.ZoneTy Tryz.prog 24 22 207 81:=⟨⟨_,_,Tryz.underlying24,⟨Tryz.underlying9,rfl,by kernel_rfl⟩,⟨rfl,rfl⟩⟩,by kernel_rfl,Tryz.underlying22,by kernel_rfl,
 ⟨_,_,_,_,Tryz.underlying207,⟨Tryz.underlying9,rfl,by kernel_rfl⟩,⟨Tryz.underlying2,rfl,by kernel_rfl⟩,⟨Tryz.underlying2,rfl,by kernel_rfl⟩,⟨rfl,rfl⟩⟩,by kernel_rfl,⟨9,Tryz.underlying81,Tryz.underlying9,by kernel_rfl⟩,by kernel_rfl,⟨[9,22],by kernel_rfl,rfl,rfl⟩⟩
theorem contract (H:Type) (enc:TypeId×Value→H) (W:World) (base:Nat) (args:Array Value) (ds gs:List (DataW H)) (before:List MemPlace)
  (hval: ∀ (j:Nat) t v,Tryz.f4.params[j]? =some t→args[j]? =some v→Value.okWide Tryz.prog W .any base t v)
  (hW:DataW.Whole enc Tryz.prog Tryz.f4.params.toList Rows.fnExactDiffZonesSpec.vars false W args.toList ds gs before) (hL:laidMetH Tryz.prog Rows.fnExactDiffZonesRow.laid W):
  Calls Tryz.prog 4 args W fun e W'=> ∃ v,e= .returned v∧Rows.fnExactDiffZonesSpec.post enc Tryz.prog Tryz.f4 false true false false W args v W':=by
 have hW':=hW;obtain ⟨p,q,hA0,hV0,rfl,hfz,hnd⟩:=hW;have hA:DataW.TrodAll enc Tryz.prog W 0 (fun _=>true) true Tryz.f4.params.toList args.toList ds p:=hA0
 have hV:DataW.TrodVars enc Tryz.prog W (fun _=>true) ["loop.example/s01858/impl.forms"] gs q:=hV0
 rw [Tryz.params4] at hA hval;obtain ⟨v0,vs0,d0,ds0,p0,q0,hargs,rfl,rfl,h0,hr0⟩:=trodAll_cons hA;obtain ⟨v1,vs1,d1,ds1,p1,q1,rfl,rfl,rfl,h1,hr1⟩:=trodAll_cons hr0;obtain ⟨rfl,rfl,rfl⟩:=trodAll_nil hr1;obtain ⟨rfl⟩:args= #[v0,v1]:=by cases args;simp_all
 obtain ⟨g,t,cs,fuel,d,pv,rfl,-⟩:=trodVars_one hV;obtain ⟨ρ0,H0,F0,hF0⟩:=Vm.forms_first rfl hL;obtain ⟨ρ1,H1,zs,dz,z,F1,le1,e1,r1,b1,b2⟩:=F0.zone zty (hval 0 24 v0 rfl rfl) h0;obtain ⟨ρ,Hh,ws,dw,w,F,le,e2,r2,c1,c2⟩:=F1.zone zty (hval 1 24 v1 rfl rfl) h1;obtain ⟨H',hlaw,-⟩:=Vm.q_law9 0 z w zs ws dz dw Hh ((hF0.ext e1).ext e2) (b1.ext e2) c1 b2 c2;have hcall:=(Vm.x8_ok (0+25)).body hlaw ⟨_,Tryz.func4,by kernel_rfl,by kernel_rfl⟩ ρ W #[v0,v1] F.heap F.glob ⟨Vm.V1.mono le r1,r2,trivial⟩
 refine hcall.mono fun e W' hR=> ?_
 cases e with
 | panicked _=>exact hR.elim
 | outgrown=>exact hR.elim
 | returned r=>
  obtain ⟨ρ',hs,hv,-⟩:=hR;have hr:r= .bool true:=hv;subst hr;have hb:=hs.below F;have hlt:=hW'.lt;refine ⟨_,rfl,Vm.post_below (pa:=_) (pv:=q) hW' (fun _ _ _=>trodAll_mk1 (shut_bool Tryz.underlying4 _)) (fun sp hsp=> ?_) (fun sp hsp=> ?_) rfl hb (ok_one (by kernel_rfl) rfl (okWide_bool_mk Tryz.underlying4 _))⟩
  ·refine Vm.trodAll_stays laidOut hb (fun t ht=> ?_) hA0 (fun x hx=>hlt x (List.mem_append_left _ hx)) (fun x hx=>hsp x (List.mem_append_left _ hx))
   rw [Tryz.params4] at ht;have:t=24:=by simpa using ht
   subst this;exact ⟨by kernel_rfl,of_decide_eq_true (by kernel_rfl)⟩
  ·exact Jm2 hb hV (fun x hx=>hlt x (List.mem_append_right _ hx)) (fun x hx=>hsp x (List.mem_append_right _ hx))
theorem JnQ (os:Os) (args:Array Value):laidMetH Tryz.prog Rows.fnExactDiffZonesRow.laid ((World.doorLaid Tryz.prog 400 os).forCall (fun _ _=>0) ⟨#[],args,[]⟩).memory:=
 laidMetH_of_parts3 (fuel:=8) (laidMet_of_run' 8 (by kernel_rfl) (by kernel_rfl)) (by kernel_rfl) (by kernel_rfl)
theorem lifted (os:Os) (started:os.Started) (H:Type) (enc:TypeId×Value→H):
  ReturnsInHanded {} Tryz.checked os 4 .any (fun w args=>(Rows.fnExactDiffZonesSpec.pre enc Tryz.prog Tryz.f4 [] false w args∧laidMetH Tryz.prog Rows.fnExactDiffZonesRow.laid w)∧sizedMet enc Tryz.prog Tryz.f4 (OpenSpec.ofChange Rows.fnExactDiffZonesSpec) false w args)
   (Rows.fnExactDiffZonesSpec.post enc Tryz.prog Tryz.f4 false true false false):=by
 refine returnsInHanded_of_change_and (C:=Tryz.checked) (X:=fun w _=>laidMetH Tryz.prog Rows.fnExactDiffZonesRow.laid w) (fun _ _ _ hh h=>h.of_heap hh) own started (by kernel_rfl) Tryz.func4
  (ChangeSpec.witness_shaped (enc:=enc) (C:=Tryz.checked) (os:=os) (X:=fun w _=>laidMetH Tryz.prog Rows.fnExactDiffZonesRow.laid w) false (World.doorLaid Tryz.prog 400 os) #[.agg #[.string .empty,.slice none 0 0],.agg #[.string .empty,.slice none 0 0]] 8 rfl (World.shaped_of_RefB (by kernel_rfl) (by kernel_rfl)) (by kernel_rfl) (by kernel_rfl) (by kernel_rfl) (JnQ os _)) ?_
 intro W base args ds gs before hval hW _ _ hL _;exact contract H enc W base args ds gs before hval hW hL
end fnExactDiffZones
end Go.Proofs.YtgoalfkgbiblgaaGreatDoor
