/- ScratchThere: which files may be there for an edge, which are own ones, and which graphs are wrong. -/
import Derived.Test.YticjnnmnjfpopaaGreatDoorKTi
set_option linter.unusedSimpArgs false
set_option linter.unusedVariables false
set_option linter.constructorNameAsVariable false
namespace Go.Proofs.YticjnnmnjfpopaaGreatDoor
open Go.ChangeShapes Go.WideShapes Go.ChangeAt Go.RowKit Go.Ab Go.Ab.S16
set_option maxRecDepth 100000 in
theorem scratchThere_lifted (os : Os) (started : os.Started) (H : Type) (enc : TypeId × Value → H) :
    ReturnsInHanded {} Tryz.checked os 4 .any (fun w args => (Rows.scratchThereSpec.pre enc Tryz.prog Tryz.f4 Rows.scratchThereRow.domain false w args ∧ laidMetH Tryz.prog LL w) ∧ sizedMet enc Tryz.prog Tryz.f4 (OpenSpec.ofChange Rows.scratchThereSpec) false w args)
      (Rows.scratchThereSpec.post enc Tryz.prog Tryz.f4 false true false false) := by
  refine returnsInHanded_of_change_and (C := Tryz.checked) (X := fun w _ => laidMetH Tryz.prog LL w) (fun _ _ _ hh h => h.of_heap hh) own_knob started (by kernel_rfl) Tryz.func4
    (ChangeSpec.witness_shaped (enc := enc) (C := Tryz.checked) (os := os) (X := fun w _ => laidMetH Tryz.prog LL w) false (World.laidAll Tryz.prog os LL) #[.agg #[.slice none 0 0, .slice none 0 0], .int .i64 0, .string ⟨#[]⟩] 8 (World.laidAll_os _ _ _)
      (laid_shaped os _) (by kernel_rfl) (by kernel_rfl) (by kernel_rfl) (laid_met os _)) ?_
  intro W base args ds gs before hval0 hW _ _ hL _
  have hval : ∀ (j : Nat) t v, Tryz.f4.params[j]? = some t → args[j]? = some v → Value.okWide Tryz.prog W .any base t v := hval0
  have hW' := hW
  obtain ⟨p, q, hA0, hV, hpq, _, _⟩ := hW
  have hA : DataW.TrodAll enc Tryz.prog W 0 (fun _ => true) true Tryz.f4.params.toList args.toList ds p := hA0
  have hd : ∃ d0 d1 d2, ds = [d0, d1, d2] := by
    rw [Tryz.params4] at hA
    obtain ⟨v0, v1, v2, d0, d1, d2, _, _, _, _, h2, _⟩ := trodAll_three hA
    exact ⟨d0, d1, d2, h2⟩
  have hg : gs = [] := by
    have : Rows.scratchThereSpec.vars = [] := rfl
    rw [this] at hV
    exact (trodVars_none hV).1
  refine (law_calls (Ts := [manT, .int .i64, .str]) sthere_law (hasAll_of _ (by kernel_rfl)) hA (fun j t v ht hv => hval j t v (by simpa using ht) (by simpa using hv)) (laid_gok hL)).mono fun e W' ⟨he, hb⟩ => ?_
  subst he
  obtain ⟨d0, d1, d2, rfl⟩ := hd
  subst hg
  exact ⟨_, rfl, post_true hW' laid_out (by decide +kernel) Tryz.underlying4 rfl rfl rfl hb⟩
theorem scratchThere_said : Rows.ScratchThereSaid :=
  OpenClaim.holds_of_wide 4 Tryz.f4 rfl rfl rfl rfl rfl rfl rfl ⟨rfl, rfl, rfl, rfl, rfl⟩ rfl rfl rfl rfl rfl (by kernel_rfl) Tryz.func4 (by kernel_rfl)
    (of_decide_eq_true (by kernel_rfl)) (by unfold Func.isWrapper; first | (rw [if_pos (by decide +kernel)]; kernel_rfl) | (rw [if_neg (by decide +kernel)]; exact ⟨rfl, rfl⟩))
    (fun os started H enc _ => scratchThere_lifted os started H enc)
theorem scratchThere_holds : Rows.ScratchThereCardSaid :=
  Claim7.holds_tied_plain_at .later [] [.data, .data, .data, .data, .pinned] true (true, "d86fa0959a70db4b0a55a46a802990bf97191fbe28582655153c77f894f4bb8b") true scratchThere_said (fun _ h => by cases h) (by kernel_rfl) (fun _ h => by cases h) scratchThere_row_tie rfl ⟨rfl, rfl⟩ (by kernel_rfl) rfl
    (fun f fn hf hfn => by
      obtain rfl : f = 4 := Option.some.inj ((show Tryz.prog.funcNamed "bellows/bellowslaw16.ScratchThere" = some 4 by kernel_rfl).symm.trans hf) |>.symm
      obtain rfl : fn = Tryz.f4 := (Option.some.inj (Tryz.func4.symm.trans hfn)).symm
      exact ⟨by kernel_rfl, fun j t ht => by
        rw [Tryz.params4] at ht
        have hm : t ∈ [25, 3, 9] := by simpa using Array.mem_of_getElem? ht
        have hall : ([25, 3, 9].all fun u => !Tryz.prog.wantsStandIn u) = true := by kernel_rfl
        exact (show Tryz.prog.wantsStandIn t = false by simpa using List.all_eq_true.1 hall t hm)⟩)
    (by kernel_rfl)
#print axioms scratchThere_holds
end Go.Proofs.YticjnnmnjfpopaaGreatDoor
