/- ScriptJoins: for every two rows of acts the law returns true, and the acts read afterwards as they read before. No condition. -/
import Derived.Test.YtcpcfglccnmmnaaS21P
import Derived.Test.YtcpcfglccnmmnaaRows
import Derived.ProofKit
set_option linter.unusedSimpArgs false
set_option linter.unusedVariables false
set_option linter.constructorNameAsVariable false
namespace Go.Proofs.Ytcpcfglccnmmnaa
open Go.ChangeShapes Go.WideShapes Go.ChangeAt Go.RowKit Go.Ab Go.Ab.S21

theorem scriptJoins_own_knob : ownKnob Try.prog.godebug = none := by kernel_rfl
theorem scriptJoins_laid_out : laidOutB Try.prog = true := by kernel_rfl

set_option maxRecDepth 100000 in
theorem scriptJoins_lifted (os : Os) (started : os.Started) (H : Type) (enc : TypeId × Value → H) :
    ReturnsInHanded {} Try.checked os 4 .any (Rows.scriptJoinsSpec.pre6 enc Try.prog Try.f4 Rows.scriptJoinsRow.domain false) (Rows.scriptJoinsSpec.post enc Try.prog Try.f4 false true false false) := by
  refine returnsInHanded_of_change (C := Try.checked) scriptJoins_own_knob started (by kernel_rfl) Try.func4
    (ChangeSpec.witness6 (enc := enc) (C := Try.checked) false ⟨#[], #[.slice none 0 0, .slice none 0 0], []⟩ 8 (by kernel_rfl) (by kernel_rfl) (by kernel_rfl) (by kernel_rfl)) ?_
  intro W base args ds gs before hval0 hW _ _
  have hval : ∀ (j : Nat) t v, Try.f4.params[j]? = some t → args[j]? = some v → Value.okWide Try.prog W .any base t v := hval0
  have hW' := hW
  obtain ⟨p, q, hA0, hV, hpq, _, _⟩ := hW
  have hA : DataW.TrodAll enc Try.prog W 0 (fun _ => true) true Try.f4.params.toList args.toList ds p := hA0
  have hd : ∃ d d', ds = [d, d'] := by
    rw [Try.params4] at hA
    obtain ⟨v, v', d, d', _, _, _, h2, _⟩ := trodAll_two hA
    exact ⟨d, d', h2⟩
  have hg : gs = [] := by
    have : Rows.scriptJoinsSpec.vars = [] := rfl
    rw [this] at hV
    exact (trodVars_none hV).1
  refine (law_calls (Ts := [.slice actT, .slice actT]) joins_true (hasAll_of _ (by kernel_rfl)) hA (fun j t v ht hv => hval j t v (by simpa using ht) (by simpa using hv))).mono fun e W' ⟨he, hb⟩ => ?_
  subst he
  obtain ⟨d, d', rfl⟩ := hd
  subst hg
  exact ⟨_, rfl, post_true hW' scriptJoins_laid_out (by decide +kernel) Try.underlying4 rfl rfl rfl hb⟩

theorem scriptJoins_holds : Rows.ScriptJoinsSaid :=
  OpenClaim.holds_of_wide 4 Try.f4 rfl rfl rfl rfl rfl rfl rfl ⟨rfl, rfl, rfl, rfl, rfl⟩ rfl rfl rfl rfl rfl (by kernel_rfl) Try.func4 (by kernel_rfl)
    (of_decide_eq_true (by kernel_rfl)) (by unfold Func.isWrapper; first | (rw [if_pos (by decide +kernel)]; kernel_rfl) | (rw [if_neg (by decide +kernel)]; exact ⟨rfl, rfl⟩))
    (fun os started H enc _ => scriptJoins_lifted os started H enc)

#print axioms scriptJoins_holds
end Go.Proofs.Ytcpcfglccnmmnaa
