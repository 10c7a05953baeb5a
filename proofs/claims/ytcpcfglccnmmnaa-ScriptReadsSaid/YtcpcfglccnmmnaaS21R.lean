/- ScriptReads: for every row of bytes the law returns true, and the bytes read afterwards as they read before. No condition. -/
import Derived.Test.YtcpcfglccnmmnaaM21b
import Derived.Test.YtcpcfglccnmmnaaRows
import Derived.ProofKit
set_option linter.unusedSimpArgs false
set_option linter.unusedVariables false
set_option linter.constructorNameAsVariable false
namespace Go.Proofs.Ytcpcfglccnmmnaa
open Go.ChangeShapes Go.WideShapes Go.ChangeAt Go.RowKit Go.Ab Go.Ab.S21

theorem scriptReads_own_knob : ownKnob Try.prog.godebug = none := by kernel_rfl
theorem scriptReads_laid_out : laidOutB Try.prog = true := by kernel_rfl

set_option maxRecDepth 100000 in
theorem scriptReads_lifted (os : Os) (started : os.Started) (H : Type) (enc : TypeId × Value → H) :
    ReturnsInHanded {} Try.checked os 5 .any (Rows.scriptReadsSpec.pre6 enc Try.prog Try.f5 Rows.scriptReadsRow.domain false) (Rows.scriptReadsSpec.post enc Try.prog Try.f5 false true false false) := by
  refine returnsInHanded_of_change (C := Try.checked) scriptReads_own_knob started (by kernel_rfl) Try.func5
    (ChangeSpec.witness6 (enc := enc) (C := Try.checked) false ⟨#[], #[.slice none 0 0], []⟩ 8 (by kernel_rfl) (by kernel_rfl) (by kernel_rfl) (by kernel_rfl)) ?_
  intro W base args ds gs before hval0 hW _ _
  have hval : ∀ (j : Nat) t v, Try.f5.params[j]? = some t → args[j]? = some v → Value.okWide Try.prog W .any base t v := hval0
  have hW' := hW
  obtain ⟨p, q, hA0, hV, hpq, _, _⟩ := hW
  have hA : DataW.TrodAll enc Try.prog W 0 (fun _ => true) true Try.f5.params.toList args.toList ds p := hA0
  have hd : ∃ d, ds = [d] := by
    rw [Try.params5] at hA
    obtain ⟨v, d, _, h2, _⟩ := trodAll_one hA
    exact ⟨d, h2⟩
  have hg : gs = [] := by
    have : Rows.scriptReadsSpec.vars = [] := rfl
    rw [this] at hV
    exact (trodVars_none hV).1
  refine (law_calls (Ts := [.slice (.int .u8)]) reads_true (hasAll_of _ (by kernel_rfl)) hA (fun j t v ht hv => hval j t v (by simpa using ht) (by simpa using hv))).mono fun e W' ⟨he, hb⟩ => ?_
  subst he
  obtain ⟨d, rfl⟩ := hd
  subst hg
  exact ⟨_, rfl, post_true hW' scriptReads_laid_out (by decide +kernel) Try.underlying4 rfl rfl rfl hb⟩

theorem scriptReads_holds : Rows.ScriptReadsSaid :=
  OpenClaim.holds_of_wide 5 Try.f5 rfl rfl rfl rfl rfl rfl rfl ⟨rfl, rfl, rfl, rfl, rfl⟩ rfl rfl rfl rfl rfl (by kernel_rfl) Try.func5 (by kernel_rfl)
    (of_decide_eq_true (by kernel_rfl)) (by unfold Func.isWrapper; first | (rw [if_pos (by decide +kernel)]; kernel_rfl) | (rw [if_neg (by decide +kernel)]; exact ⟨rfl, rfl⟩))
    (fun os started H enc _ => scriptReads_lifted os started H enc)

#print axioms scriptReads_holds
end Go.Proofs.Ytcpcfglccnmmnaa
