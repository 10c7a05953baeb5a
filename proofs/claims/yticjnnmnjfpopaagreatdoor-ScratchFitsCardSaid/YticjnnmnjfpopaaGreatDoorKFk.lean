/- ScratchFits: a dish fits an edge just if its outputs are the edge's. -/
import Derived.Test.YticjnnmnjfpopaaGreatDoorKFj
set_option linter.unusedSimpArgs false
set_option linter.unusedVariables false
set_option linter.constructorNameAsVariable false
namespace Go.Proofs.YticjnnmnjfpopaaGreatDoor
open Go.ChangeShapes Go.WideShapes Go.ChangeAt Go.RowKit Go.Ab Go.Ab.S16
set_option maxRecDepth 100000 in
theorem scratchFits_lifted (os : Os) (started : os.Started) (H : Type) (enc : TypeId × Value → H) :
    ReturnsInHanded {} Tryz.checked os 7 .any (fun w args => (Rows.scratchFitsSpec.pre enc Tryz.prog Tryz.f7 Rows.scratchFitsRow.domain false w args ∧ laidMetH Tryz.prog LL w) ∧ sizedMet enc Tryz.prog Tryz.f7 (OpenSpec.ofChange Rows.scratchFitsSpec) false w args)
      (Rows.scratchFitsSpec.post enc Tryz.prog Tryz.f7 false true false false) := by
  refine returnsInHanded_of_change_and (C := Tryz.checked) (X := fun w _ => laidMetH Tryz.prog LL w) (fun _ _ _ hh h => h.of_heap hh) own_knob started (by kernel_rfl) Tryz.func7
    (ChangeSpec.witness_shaped (enc := enc) (C := Tryz.checked) (os := os) (X := fun w _ => laidMetH Tryz.prog LL w) false (World.laidAll Tryz.prog os LL) #[.agg #[.slice none 0 0, .slice none 0 0, .string ⟨#[]⟩, .string ⟨#[]⟩]] 8 (World.laidAll_os _ _ _)
      (laid_shaped os _) (by kernel_rfl) (by kernel_rfl) (by kernel_rfl) (laid_met os _)) ?_
  intro W base args ds gs before hval0 hW _ _ hL _
  have hval : ∀ (j : Nat) t v, Tryz.f7.params[j]? = some t → args[j]? = some v → Value.okWide Tryz.prog W .any base t v := hval0
  have hW' := hW
  obtain ⟨p, q, hA0, hV, hpq, _, _⟩ := hW
  have hA : DataW.TrodAll enc Tryz.prog W 0 (fun _ => true) true Tryz.f7.params.toList args.toList ds p := hA0
  have hd : ∃ d0, ds = [d0] := by
    rw [Tryz.params7] at hA
    obtain ⟨v0, d0, _, h2, _⟩ := trodAll_one hA
    exact ⟨d0, h2⟩
  have hg : gs = [] := by
    have : Rows.scratchFitsSpec.vars = [] := rfl
    rw [this] at hV
    exact (trodVars_none hV).1
  refine (law_calls (Ts := [fitT]) sfits_law (hasAll_of _ (by kernel_rfl)) hA (fun j t v ht hv => hval j t v (by simpa using ht) (by simpa using hv)) (laid_gok hL)).mono fun e W' ⟨he, hb⟩ => ?_
  subst he
  obtain ⟨d0, rfl⟩ := hd
  subst hg
  exact ⟨_, rfl, post_true hW' laid_out (by decide +kernel) Tryz.underlying4 rfl rfl rfl hb⟩
theorem scratchFits_said : Rows.ScratchFitsSaid :=
  OpenClaim.holds_of_wide 7 Tryz.f7 rfl rfl rfl rfl rfl rfl rfl ⟨rfl, rfl, rfl, rfl, rfl⟩ rfl rfl rfl rfl rfl (by kernel_rfl) Tryz.func7 (by kernel_rfl)
    (of_decide_eq_true (by kernel_rfl)) (by unfold Func.isWrapper; first | (rw [if_pos (by decide +kernel)]; kernel_rfl) | (rw [if_neg (by decide +kernel)]; exact ⟨rfl, rfl⟩))
    (fun os started H enc _ => scratchFits_lifted os started H enc)
theorem scratchFits_holds : Rows.ScratchFitsCardSaid :=
  Claim7.holds_tied_plain_at .later [] [.data, .data, .data, .data, .pinned] true (true, "d86fa0959a70db4b0a55a46a802990bf97191fbe28582655153c77f894f4bb8b") true scratchFits_said (fun _ h => by cases h) (by kernel_rfl) (fun _ h => by cases h) scratchFits_row_tie rfl ⟨rfl, rfl⟩ (by kernel_rfl) rfl
    (fun f fn hf hfn => by
      obtain rfl : f = 7 := Option.some.inj ((show Tryz.prog.funcNamed "bellows/bellowslaw16.ScratchFits" = some 7 by kernel_rfl).symm.trans hf) |>.symm
      obtain rfl : fn = Tryz.f7 := (Option.some.inj (Tryz.func7.symm.trans hfn)).symm
      exact ⟨by kernel_rfl, fun j t ht => by
        rw [Tryz.params7] at ht
        have hm : t ∈ [61] := by simpa using Array.mem_of_getElem? ht
        have hall : ([61].all fun u => !Tryz.prog.wantsStandIn u) = true := by kernel_rfl
        exact (show Tryz.prog.wantsStandIn t = false by simpa using List.all_eq_true.1 hall t hm)⟩)
    (by kernel_rfl)
#print axioms scratchFits_holds
end Go.Proofs.YticjnnmnjfpopaaGreatDoor
