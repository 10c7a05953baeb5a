/- ScriptWrites: for every row of acts the law returns true, and the acts read afterwards as they read before. No condition. -/
import Derived.Test.YtcpcfglccnmmnaaS21P
import Derived.Test.YtcpcfglccnmmnaaRows
import Derived.ProofKit
set_option linter.unusedSimpArgs false
set_option linter.unusedVariables false
set_option linter.constructorNameAsVariable false
namespace Go.Proofs.Ytcpcfglccnmmnaa
open Go.ChangeShapes Go.WideShapes Go.ChangeAt Go.RowKit Go.Ab Go.Ab.S21

theorem own_knob : ownKnob Try.prog.godebug = none := by kernel_rfl
theorem laid_out : laidOutB Try.prog = true := by kernel_rfl

theorem writes_true (xs : List D) (h : WTvs [.slice actT] xs) : ACalls Try.prog 3 xs [] (fun e _ => e = .ret (.v (.bool true))) := by
  obtain ⟨d, ds, rfl, h1, h2⟩ := h
  unfold WTvs at h2
  subst h2
  obtain ⟨l, rfl⟩ := wt_acts h1
  exact law_writes l

set_option maxRecDepth 100000 in
theorem writes_lifted (os : Os) (started : os.Started) (H : Type) (enc : TypeId × Value → H) :
    ReturnsInHanded {} Try.checked os 3 .any (Rows.scriptWritesSpec.pre6 enc Try.prog Try.f3 Rows.scriptWritesRow.domain false) (Rows.scriptWritesSpec.post enc Try.prog Try.f3 false true false false) := by
  refine returnsInHanded_of_change (C := Try.checked) own_knob started (by kernel_rfl) Try.func3
    (ChangeSpec.witness6 (enc := enc) (C := Try.checked) false ⟨#[], #[.slice none 0 0], []⟩ 8 (by kernel_rfl) (by kernel_rfl) (by kernel_rfl) (by kernel_rfl)) ?_
  intro W base args ds gs before hval0 hW _ _
  have hval : ∀ (j : Nat) t v, Try.f3.params[j]? = some t → args[j]? = some v → Value.okWide Try.prog W .any base t v := hval0
  have hW' := hW
  obtain ⟨p, q, hA0, hV, hpq, _, _⟩ := hW
  have hA : DataW.TrodAll enc Try.prog W 0 (fun _ => true) true Try.f3.params.toList args.toList ds p := hA0
  have hd : ∃ d, ds = [d] := by
    rw [Try.params3] at hA
    obtain ⟨v, d, _, h2, _⟩ := trodAll_one hA
    exact ⟨d, h2⟩
  have hg : gs = [] := by
    have : Rows.scriptWritesSpec.vars = [] := rfl
    rw [this] at hV
    exact (trodVars_none hV).1
  refine (law_calls (Ts := [.slice actT]) writes_true (hasAll_of _ (by kernel_rfl)) hA (fun j t v ht hv => hval j t v (by simpa using ht) (by simpa using hv))).mono fun e W' ⟨he, hb⟩ => ?_
  subst he
  obtain ⟨d, rfl⟩ := hd
  subst hg
  exact ⟨_, rfl, post_true hW' laid_out (by decide +kernel) Try.underlying4 rfl rfl rfl hb⟩

theorem scriptWrites_holds : Rows.ScriptWritesSaid :=
  OpenClaim.holds_of_wide 3 Try.f3 rfl rfl rfl rfl rfl rfl rfl ⟨rfl, rfl, rfl, rfl, rfl⟩ rfl rfl rfl rfl rfl (by kernel_rfl) Try.func3 (by kernel_rfl)
    (of_decide_eq_true (by kernel_rfl)) (by unfold Func.isWrapper; first | (rw [if_pos (by decide +kernel)]; kernel_rfl) | (rw [if_neg (by decide +kernel)]; exact ⟨rfl, rfl⟩))
    (fun os started H enc _ => writes_lifted os started H enc)

#print axioms scriptWrites_holds
end Go.Proofs.Ytcpcfglccnmmnaa
