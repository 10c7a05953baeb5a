/- ScriptBack: what is written is read, and what is read is written, for all acts and bytes. No condition. -/
import Derived.Test.YtcpcfglccnmmnaaB21c
import Derived.Test.YtcpcfglccnmmnaaRows
import Derived.ProofKit
set_option linter.unusedSimpArgs false
set_option linter.unusedVariables false
set_option linter.constructorNameAsVariable false
namespace Go.Proofs.Ytcpcfglccnmmnaa
open Go.ChangeShapes Go.WideShapes Go.ChangeAt Go.RowKit Go.Ab Go.Ab.S21

theorem scriptBack_own_knob : ownKnob Try.prog.godebug = none := by kernel_rfl
theorem scriptBack_laid_out : laidOutB Try.prog = true := by kernel_rfl

set_option maxRecDepth 100000 in
theorem scriptBack_lifted (os : Os) (started : os.Started) (H : Type) (enc : TypeId × Value → H) :
    ReturnsInHanded {} Try.checked os 6 .any (Rows.scriptBackSpec.pre6 enc Try.prog Try.f6 Rows.scriptBackRow.domain false) (Rows.scriptBackSpec.post enc Try.prog Try.f6 false true false false) := by
  refine returnsInHanded_of_change (C := Try.checked) scriptBack_own_knob started (by kernel_rfl) Try.func6
    (ChangeSpec.witness6 (enc := enc) (C := Try.checked) false ⟨#[], #[.slice none 0 0, .slice none 0 0], []⟩ 8 (by kernel_rfl) (by kernel_rfl) (by kernel_rfl) (by kernel_rfl)) ?_
  intro W base args ds gs before hval0 hW _ _
  have hval : ∀ (j : Nat) t v, Try.f6.params[j]? = some t → args[j]? = some v → Value.okWide Try.prog W .any base t v := hval0
  have hW' := hW
  obtain ⟨p, q, hA0, hV, hpq, _, _⟩ := hW
  have hA : DataW.TrodAll enc Try.prog W 0 (fun _ => true) true Try.f6.params.toList args.toList ds p := hA0
  have hd : ∃ d d', ds = [d, d'] := by
    rw [Try.params6] at hA
    obtain ⟨v, v', d, d', _, _, _, h2, _⟩ := trodAll_two hA
    exact ⟨d, d', h2⟩
  have hg : gs = [] := by
    have : Rows.scriptBackSpec.vars = [] := rfl
    rw [this] at hV
    exact (trodVars_none hV).1
  refine (law_calls (Ts := [.slice actT, .slice (.int .u8)]) back_true (hasAll_of _ (by kernel_rfl)) hA (fun j t v ht hv => hval j t v (by simpa using ht) (by simpa using hv))).mono fun e W' ⟨he, hb⟩ => ?_
  subst he
  obtain ⟨d, d', rfl⟩ := hd
  subst hg
  exact ⟨_, rfl, post_true hW' scriptBack_laid_out (by decide +kernel) Try.underlying4 rfl rfl rfl hb⟩

theorem scriptBack_holds : Rows.ScriptBackSaid :=
  OpenClaim.holds_of_wide 6 Try.f6 rfl rfl rfl rfl rfl rfl rfl ⟨rfl, rfl, rfl, rfl, rfl⟩ rfl rfl rfl rfl rfl (by kernel_rfl) Try.func6 (by kernel_rfl)
    (of_decide_eq_true (by kernel_rfl)) (by unfold Func.isWrapper; first | (rw [if_pos (by decide +kernel)]; kernel_rfl) | (rw [if_neg (by decide +kernel)]; exact ⟨rfl, rfl⟩))
    (fun os started H enc _ => scriptBack_lifted os started H enc)

#print axioms scriptBack_holds
end Go.Proofs.Ytcpcfglccnmmnaa
