/- ScratchEvals: what any manifest makes of any sources, for any targets, or which error, is what evaluating it by definition tells, for every manifest, files and targets within the bounds of the statement. -/
import Derived.Test.YticjnnmnjfpopaaGreatDoorKEl
set_option linter.unusedSimpArgs false
set_option linter.unusedVariables false
set_option linter.constructorNameAsVariable false
namespace Go.Proofs.YticjnnmnjfpopaaGreatDoor
open Go.ChangeShapes Go.WideShapes Go.ChangeAt Go.RowKit Go.Ab Go.Ab.S16
set_option maxRecDepth 100000 in
theorem scratchEvals_lifted (os:Os) (started:os.Started) (H:Type) (enc:TypeId×Value→H):
  ReturnsInHanded {} Tryz.checked os 3 .any (fun w args=>(Rows.scratchEvalsSpec.pre enc Tryz.prog Tryz.f3 Rows.scratchEvalsRow.domain false w args∧laidMetH Tryz.prog pc w)∧sizedMet enc Tryz.prog Tryz.f3 (OpenSpec.ofChange Rows.scratchEvalsSpec) false w args)
   (Rows.scratchEvalsSpec.post enc Tryz.prog Tryz.f3 false true false false):=by
 refine returnsInHanded_of_change_and (C:=Tryz.checked) (X:=fun w _=>laidMetH Tryz.prog pc w) (fun _ _ _ a8 h=>h.of_heap a8) Vj started (by kernel_rfl) Tryz.func3
  (ChangeSpec.witness_shaped (enc:=enc) (C:=Tryz.checked) (os:=os) (X:=fun w _=>laidMetH Tryz.prog pc w) false (World.laidAll Tryz.prog os pc) #[.agg #[.slice none 0 0, .slice none 0 0], .slice none 0 0, .slice none 0 0] 8 (World.laidAll_os _ _ _)
   (TZ os _) (by kernel_rfl) (by kernel_rfl) (by kernel_rfl) (TX os _)) ?_
 intro W base args ds gs before S8 ib _ _ px _;have tW:∀(U:Nat) t v,Tryz.f3.params[U]?=some t→args[U]?=some v→Value.okWide Tryz.prog W .any base t v:=S8;have QI:=ib;obtain⟨p,q,Qk,om,ac2,_,_⟩:=ib;have gj:DataW.TrodAll enc Tryz.prog W 0 (fun _=>true) true Tryz.f3.params.toList args.toList ds p:=Qk;have aw:∃d0 d1 d2,ds=[d0,d1,d2]:=by
  rw[Tryz.params3]at gj;obtain⟨v0,v1,v2,d0,d1,d2,_,_,_,_,ah,_⟩:=trodAll_three gj;exact⟨d0,d1,d2,ah⟩
 have aq:gs=[]:=by
  have:Rows.scratchEvalsSpec.vars=[]:=rfl;rw[this]at om;exact(trodVars_none om).1
 refine(T0 (Ts:=[AH, .slice w6, .slice .str]) Xw (IF _ (by kernel_rfl)) gj (fun U t v bc ak=>tW U t v (by simpa using bc) (by simpa using ak)) (TW px)).mono fun e pe ⟨he,ae⟩=> ?_;subst he;obtain⟨d0,d1,d2,rfl⟩:=aw;subst aq;exact⟨_,rfl,Vr QI TY (by decide+kernel) Tryz.underlying4 rfl rfl rfl ae⟩
theorem scratchEvals_said:Rows.ScratchEvalsSaid:=
 OpenClaim.holds_of_wide 3 Tryz.f3 rfl rfl rfl rfl rfl rfl rfl ⟨rfl,rfl,rfl,rfl,rfl⟩ rfl rfl rfl rfl rfl (by kernel_rfl) Tryz.func3 (by kernel_rfl)
  (of_decide_eq_true (by kernel_rfl)) (by unfold Func.isWrapper;first|(rw[if_pos (by decide+kernel)];kernel_rfl)|(rw[if_neg (by decide+kernel)];exact⟨rfl,rfl⟩))
  (fun os started H enc _=>scratchEvals_lifted os started H enc)
theorem scratchEvals_holds:Rows.ScratchEvalsCardSaid:=
 Claim7.holds_tied_plain_at .later [] [.data, .data, .data, .data, .pinned] true (true, "d86fa0959a70db4b0a55a46a802990bf97191fbe28582655153c77f894f4bb8b") true scratchEvals_said (fun _ h=>by cases h) (by kernel_rfl) (fun _ h=>by cases h) scratchEvals_row_tie rfl ⟨rfl,rfl⟩ (by kernel_rfl) rfl
  (fun f fn ax jk=>by
   obtain rfl:f=3:=Option.some.inj ((show Tryz.prog.funcNamed "bellows/bellowslaw16.ScratchEvals"=some 3 by kernel_rfl).symm.trans ax)|>.symm;obtain rfl:fn=Tryz.f3:=(Option.some.inj (Tryz.func3.symm.trans jk)).symm;exact⟨by kernel_rfl,fun U t bc=>by
    rw[Tryz.params3]at bc;have hm:t∈[25,26,23]:=by simpa using Array.mem_of_getElem? bc
    have b0:([25,26,23].all fun u=> !Tryz.prog.wantsStandIn u)=true:=by kernel_rfl
    exact(show Tryz.prog.wantsStandIn t=false by simpa using List.all_eq_true.1 b0 t hm)⟩)
  (by kernel_rfl)
#print axioms scratchEvals_holds
end Go.Proofs.YticjnnmnjfpopaaGreatDoor
