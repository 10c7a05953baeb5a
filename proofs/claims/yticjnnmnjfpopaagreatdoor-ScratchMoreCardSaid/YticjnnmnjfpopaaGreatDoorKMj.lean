/- ScratchMore: a target more changes nothing of what is made for the others; files that nobody needs neither, nor those that edges make. -/
import Derived.Test.YticjnnmnjfpopaaGreatDoorKMi
set_option linter.unusedSimpArgs false
set_option linter.unusedVariables false
set_option linter.constructorNameAsVariable false
namespace Go.Proofs.YticjnnmnjfpopaaGreatDoor
open Go.ChangeShapes Go.WideShapes Go.ChangeAt Go.RowKit Go.Ab Go.Ab.S16
set_option maxRecDepth 100000 in
theorem scratchMore_lifted (os : Os) (started : os.Started) (H : Type) (enc : TypeId × Value → H) :
    ReturnsInHanded {} Tryz.checked os 5 .any (fun w args => (Rows.scratchMoreSpec.pre enc Tryz.prog Tryz.f5 Rows.scratchMoreRow.domain false w args ∧ laidMetH Tryz.prog LL w) ∧ sizedMet enc Tryz.prog Tryz.f5 (OpenSpec.ofChange Rows.scratchMoreSpec) false w args)
      (Rows.scratchMoreSpec.post enc Tryz.prog Tryz.f5 false true false false) := by
  refine returnsInHanded_of_change_and (C := Tryz.checked) (X := fun w _ => laidMetH Tryz.prog LL w) (fun _ _ _ hh h => h.of_heap hh) own_knob started (by kernel_rfl) Tryz.func5
    (ChangeSpec.witness_shaped (enc := enc) (C := Tryz.checked) (os := os) (X := fun w _ => laidMetH Tryz.prog LL w) false (World.laidAll Tryz.prog os LL) #[.agg #[.slice none 0 0, .slice none 0 0], .slice none 0 0, .slice none 0 0] 8 (World.laidAll_os _ _ _)
      (laid_shaped os _) (by kernel_rfl) (by kernel_rfl) (by kernel_rfl) (laid_met os _)) ?_
  intro W base args ds gs before hval0 hW _ _ hL _
  have hval : ∀ (j : Nat) t v, Tryz.f5.params[j]? = some t → args[j]? = some v → Value.okWide Tryz.prog W .any base t v := hval0
  have hW' := hW
  obtain ⟨p, q, hA0, hV, hpq, _, _⟩ := hW
  have hA : DataW.TrodAll enc Tryz.prog W 0 (fun _ => true) true Tryz.f5.params.toList args.toList ds p := hA0
  have hd : ∃ d0 d1 d2, ds = [d0, d1, d2] := by
    rw [Tryz.params5] at hA
    obtain ⟨v0, v1, v2, d0, d1, d2, _, _, _, _, h2, _⟩ := trodAll_three hA
    exact ⟨d0, d1, d2, h2⟩
  have hg : gs = [] := by
    have : Rows.scratchMoreSpec.vars = [] := rfl
    rw [this] at hV
    exact (trodVars_none hV).1
  refine (law_calls (Ts := [manT, .slice fileT, .slice .str]) smore_law (hasAll_of _ (by kernel_rfl)) hA (fun j t v ht hv => hval j t v (by simpa using ht) (by simpa using hv)) (laid_gok hL)).mono fun e W' ⟨he, hb⟩ => ?_
  subst he
  obtain ⟨d0, d1, d2, rfl⟩ := hd
  subst hg
  exact ⟨_, rfl, post_true hW' laid_out (by decide +kernel) Tryz.underlying4 rfl rfl rfl hb⟩
theorem scratchMore_said : Rows.ScratchMoreSaid :=
  OpenClaim.holds_of_wide 5 Tryz.f5 rfl rfl rfl rfl rfl rfl rfl ⟨rfl, rfl, rfl, rfl, rfl⟩ rfl rfl rfl rfl rfl (by kernel_rfl) Tryz.func5 (by kernel_rfl)
    (of_decide_eq_true (by kernel_rfl)) (by unfold Func.isWrapper; first | (rw [if_pos (by decide +kernel)]; kernel_rfl) | (rw [if_neg (by decide +kernel)]; exact ⟨rfl, rfl⟩))
    (fun os started H enc _ => scratchMore_lifted os started H enc)
theorem scratchMore_holds : Rows.ScratchMoreCardSaid :=
  Claim7.holds_tied_plain_at .later [] [.data, .data, .data, .data, .pinned] true (true, "d86fa0959a70db4b0a55a46a802990bf97191fbe28582655153c77f894f4bb8b") true scratchMore_said (fun _ h => by cases h) (by kernel_rfl) (fun _ h => by cases h) scratchMore_row_tie rfl ⟨rfl, rfl⟩ (by kernel_rfl) rfl
    (fun f fn hf hfn => by
      obtain rfl : f = 5 := Option.some.inj ((show Tryz.prog.funcNamed "bellows/bellowslaw16.ScratchMore" = some 5 by kernel_rfl).symm.trans hf) |>.symm
      obtain rfl : fn = Tryz.f5 := (Option.some.inj (Tryz.func5.symm.trans hfn)).symm
      exact ⟨by kernel_rfl, fun j t ht => by
        rw [Tryz.params5] at ht
        have hm : t ∈ [25, 26, 23] := by simpa using Array.mem_of_getElem? ht
        have hall : ([25, 26, 23].all fun u => !Tryz.prog.wantsStandIn u) = true := by kernel_rfl
        exact (show Tryz.prog.wantsStandIn t = false by simpa using List.all_eq_true.1 hall t hm)⟩)
    (by kernel_rfl)
#print axioms scratchMore_holds
end Go.Proofs.YticjnnmnjfpopaaGreatDoor
