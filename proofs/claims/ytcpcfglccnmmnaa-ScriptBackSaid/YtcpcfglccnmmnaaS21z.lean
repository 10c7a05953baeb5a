/- Layer 21: guarded. -/
import Derived.Test.YtcpcfglccnmmnaaS21y
set_option linter.unusedSimpArgs false
set_option linter.unusedVariables false
set_option linter.constructorNameAsVariable false
namespace Go.Ab.S21
open Go Go.Proofs

/-- The closure that guarded defers: of a frame that panics with an error it puts the error's number into the result's cell. -/
theorem guardD_pan (b2 : Nat) (m n : Int) (σ : Store) (hb : sget b2 σ = some (.arr 1 [.v (.int .i64 m)])) {R : AMode → Store → Prop}
    (hR : ∀ σ', SLe (sset b2 (.arr 1 [.v (.int .i64 n)]) σ) σ' → R (.pan (wrongP n) true) σ') : ADCalls Try.prog 32 [.ptr b2 1 0 0] (.pan (wrongP n) false) σ R := by
  unfold wrongP at hR ⊢
  refine ADCalls.of_body Try.func32 rfl Try.ntmps32 (by simp) fun C hC => ?_
  refine Goes.seq ?_
  refine Goes.recoverPan (k1 := 4) (k2 := 1) hC rfl rfl rfl rfl rfl rfl (by simp [dstB, lkFree]) (by simp [dstB, lkFree]) fun C hC => ?_
  simp only [go_sem, ↓reduceIte, reduceCtorEq, Nat.reduceEqDiff, Nat.reduceBEq, Int.reduceBEq, Int.reduceBNe, Nat.reduceLT, Nat.reduceLeDiff, Nat.reduceAdd, Nat.reduceSub, Nat.reduceMul, Int.reduceToNat, Int.reduceEq, Int.reduceLT, Int.reduceLE]
  repeat' (first | refine Goes.seq ?_ | refine Goes.skip ?_ | refine Goes.inBlock ?_ | refine Goes.block ?_ | refine Goes.exit rfl ?_ | (refine Goes.region [0, 1] fun K hK => ?_; simp (maxSteps := 4000000) only [go_sem, ↓reduceIte, reduceCtorEq, Nat.reduceEqDiff, Nat.reduceBEq, Int.reduceBEq, Int.reduceBNe, Nat.reduceLT, Nat.reduceLeDiff, Nat.reduceAdd, Nat.reduceSub, Nat.reduceMul, Int.reduceToNat, Int.reduceEq, Int.reduceLT, Int.reduceLE]; refine hK _ _ ?_; clear hK K))
  refine Goes.condT rfl ?_
  refine Goes.seq ?_
  refine Goes.region [0, 1] fun K hK => ?_; simp (maxSteps := 4000000) only [go_sem, ↓reduceIte, reduceCtorEq, Nat.reduceEqDiff, Nat.reduceBEq, Int.reduceBEq, Int.reduceBNe, Nat.reduceLT, Nat.reduceLeDiff, Nat.reduceAdd, Nat.reduceSub, Nat.reduceMul, Int.reduceToNat, Int.reduceEq, Int.reduceLT, Int.reduceLE, hb]
  intro bw hbw
  refine hK _ _ ?_; clear hK K
  repeat' (first | refine Goes.seq ?_ | refine Goes.skip ?_ | refine Goes.inBlock ?_ | refine Goes.block ?_ | refine Goes.exit rfl ?_ | (refine Goes.region [0, 1, 2, 3] fun K hK => ?_; simp (maxSteps := 4000000) only [go_sem, ↓reduceIte, reduceCtorEq, Nat.reduceEqDiff, Nat.reduceBEq, Int.reduceBEq, Int.reduceBNe, Nat.reduceLT, Nat.reduceLeDiff, Nat.reduceAdd, Nat.reduceSub, Nat.reduceMul, Int.reduceToNat, Int.reduceEq, Int.reduceLT, Int.reduceLE]; refine hK _ _ ?_; clear hK K))
  refine Goes.condF rfl ?_
  refine Goes.skip ?_
  have hne : b2 ≠ bw := fun e => by subst e; rw [hbw] at hb; cases hb
  refine Goes.region [0, 2] fun K hK => ?_; simp (maxSteps := 4000000) only [go_sem, ↓reduceIte, reduceCtorEq, Nat.reduceEqDiff, Nat.reduceBEq, Int.reduceBEq, Int.reduceBNe, Nat.reduceLT, Nat.reduceLeDiff, Nat.reduceAdd, Nat.reduceSub, Nat.reduceMul, Int.reduceToNat, Int.reduceEq, Int.reduceLT, Int.reduceLE, hb, hne]
  refine hK _ _ ?_; clear hK K
  exact Goes.doneD hC Try.func32 rfl (hR _ (sle_cons (SLe.refl _) (by rw [sget_sset, if_neg hne.symm]; exact hbw)))

theorem guardD_ret (b2 : Nat) (σ : Store) {R : AMode → Store → Prop} (hR : R .ret σ) : ADCalls Try.prog 32 [.ptr b2 1 0 0] .ret σ R := by
  refine ADCalls.of_body Try.func32 rfl Try.ntmps32 (by simp) fun C hC => ?_
  refine Goes.seq ?_
  refine Goes.recoverRet (k1 := 4) (k2 := 1) hC rfl rfl rfl rfl rfl rfl (by simp [dstB, lkFree]) (by simp [dstB, lkFree]) ?_
  simp only [go_sem, ↓reduceIte, reduceCtorEq, Nat.reduceEqDiff, Nat.reduceBEq, Int.reduceBEq, Int.reduceBNe, Nat.reduceLT, Nat.reduceLeDiff, Nat.reduceAdd, Nat.reduceSub, Nat.reduceMul, Int.reduceToNat, Int.reduceEq, Int.reduceLT, Int.reduceLE]
  repeat' (first | refine Goes.seq ?_ | refine Goes.skip ?_ | refine Goes.inBlock ?_ | refine Goes.block ?_ | refine Goes.exit rfl ?_ | (refine Goes.region [0, 1] fun K hK => ?_; simp (maxSteps := 4000000) only [go_sem, ↓reduceIte, reduceCtorEq, Nat.reduceEqDiff, Nat.reduceBEq, Int.reduceBEq, Int.reduceBNe, Nat.reduceLT, Nat.reduceLeDiff, Nat.reduceAdd, Nat.reduceSub, Nat.reduceMul, Int.reduceToNat, Int.reduceEq, Int.reduceLT, Int.reduceLE]; refine hK _ _ ?_; clear hK K))
  refine Goes.condF rfl ?_
  repeat' (first | refine Goes.seq ?_ | refine Goes.skip ?_ | refine Goes.inBlock ?_ | refine Goes.block ?_ | refine Goes.exit rfl ?_ | (refine Goes.region [0] fun K hK => ?_; simp (maxSteps := 4000000) only [go_sem, ↓reduceIte, reduceCtorEq, Nat.reduceEqDiff, Nat.reduceBEq, Int.reduceBEq, Int.reduceBNe, Nat.reduceLT, Nat.reduceLeDiff, Nat.reduceAdd, Nat.reduceSub, Nat.reduceMul, Int.reduceToNat, Int.reduceEq, Int.reduceLT, Int.reduceLE]; refine hK _ _ ?_; clear hK K))
  exact Goes.doneD hC Try.func32 rfl hR

theorem guarded_calls (g : FuncId) (caps : List D) (σ : Store) {Rg R : AEnd → Store → Prop} (hcall : ∀ args w, (callFunc g args).run Try.prog w = .ok (.enter g args) w) (hg : ACalls Try.prog g caps σ Rg)
    (hR : ∀ e σ', Rg e σ' → (e = .ret (.tup []) ∧ R (.ret (.v (.int .i64 0))) σ') ∨ (∃ n, e = .panic (wrongP n) ∧ R (.ret (.v (.int .i64 n))) σ')) :
    ACalls Try.prog 16 [.clo (.func g) [] caps] σ R := by
  refine ACalls.forget (R := fun e σ'' => ∃ σ', SLe σ' σ'' ∧ R e σ') ?_ fun e σ' h => h
  refine ACalls.of_body Try.func16 rfl Try.ntmps16 (by simp) fun C hC => ?_
  refine Goes.seq ?_
  refine Goes.region [0] fun K hK => ?_; simp (maxSteps := 4000000) only [go_sem, ↓reduceIte, reduceCtorEq, Nat.reduceEqDiff, Nat.reduceBEq, Int.reduceBEq, Int.reduceBNe, Nat.reduceLT, Nat.reduceLeDiff, Nat.reduceAdd, Nat.reduceSub, Nat.reduceMul, Int.reduceToNat, Int.reduceEq, Int.reduceLT, Int.reduceLE]
  intro b2 hb2
  refine hK _ _ ?_; clear hK K
  refine Goes.seq ?_
  refine Goes.defer (L := [(2, .ptr b2 1 0 0)]) (k1 := 3) hC Try.call32 rfl rfl rfl rfl rfl rfl (by decide) rfl rfl (by simp [eget]) (by simp) fun C hC => ?_
  have hcaps : List.map (ev [(2, D.ptr b2 1 0 0), (0, .clo (.func g) [] caps)]) [Operand.tmp 2] = [D.ptr b2 1 0 0] := rfl
  have hfr := hg.frame (σ := (b2, .arr 1 [.v (.int .i64 0)]) :: σ) (ρ := [(b2, .arr 1 [.v (.int .i64 0)])]) (sle_cons (SLe.refl _) hb2) (SLe.cons (sget_self ..) (SLe.nil _)) (Apart.cons hb2 (Apart.nil _))
  refine Goes.seq ?_
  refine Goes.region [0, 2] fun K hK => ?_; simp (maxSteps := 4000000) only [go_sem, ↓reduceIte, reduceCtorEq, Nat.reduceEqDiff, Nat.reduceBEq, Int.reduceBEq, Int.reduceBNe, Nat.reduceLT, Nat.reduceLeDiff, Nat.reduceAdd, Nat.reduceSub, Nat.reduceMul, Int.reduceToNat, Int.reduceEq, Int.reduceLT, Int.reduceLE]
  refine ⟨g, hcall, ?_⟩
  simp only [go_sem, ↓reduceIte, reduceCtorEq, Nat.reduceEqDiff, Nat.reduceBEq, Int.reduceBEq, Int.reduceBNe, Nat.reduceLT, Nat.reduceLeDiff, Nat.reduceAdd, Nat.reduceSub, Nat.reduceMul, Int.reduceToNat, Int.reduceEq, Int.reduceLT, Int.reduceLE]
  refine hfr.mono ?_
  rintro e σ2 ⟨σ1, hRg, hap, rfl⟩
  have hb1 : sget b2 σ1 = none := hap b2 (by simp [sget])
  have hb3 : sget b2 (σ1 ++ [(b2, .arr 1 [.v (.int .i64 0)])]) = some (.arr 1 [.v (.int .i64 0)]) := by rw [sget_append_none hb1, sget_self]
  have hsl : ∀ σ', SLe (sset b2 σ' (σ1 ++ [(b2, .arr 1 [.v (.int .i64 0)])])) (sset b2 σ' (σ1 ++ [(b2, .arr 1 [.v (.int .i64 0)])])) := fun _ => SLe.refl _
  have hsl1 : ∀ x, SLe σ1 (sset b2 x (σ1 ++ [(b2, .arr 1 [.v (.int .i64 0)])])) := fun x b o hb => by
    have hne : b ≠ b2 := fun e => by subst e; rw [hb1] at hb; cases hb
    rw [sget_sset, if_neg hne]; exact sget_append_some hb
  have hrow : ∀ n, sget b2 (sset b2 (.arr 1 [.v (.int .i64 n)]) (σ1 ++ [(b2, .arr 1 [.v (.int .i64 0)])])) = some (.arr 1 [.v (.int .i64 n)]) := fun n => by
    rw [sget_sset, if_pos rfl, hb3]; rfl
  rcases hR e σ1 hRg with ⟨rfl, hret⟩ | ⟨n, rfl, hret⟩
  · simp only [go_sem, ↓reduceIte, reduceCtorEq, Nat.reduceEqDiff, Nat.reduceBEq, Int.reduceBEq, Int.reduceBNe, Nat.reduceLT, Nat.reduceLeDiff, Nat.reduceAdd, Nat.reduceSub, Nat.reduceMul, Int.reduceToNat, Int.reduceEq, Int.reduceLT, Int.reduceLE]
    refine hK _ _ ?_; clear hK K
    refine Goes.seq ?_
    refine Goes.region [2] fun K hK => ?_; simp (maxSteps := 4000000) only [go_sem, ↓reduceIte, reduceCtorEq, Nat.reduceEqDiff, Nat.reduceBEq, Int.reduceBEq, Int.reduceBNe, Nat.reduceLT, Nat.reduceLeDiff, Nat.reduceAdd, Nat.reduceSub, Nat.reduceMul, Int.reduceToNat, Int.reduceEq, Int.reduceLT, Int.reduceLE, hb3]
    refine hK _ _ ?_; clear hK K
    refine Goes.retL hC Try.func16 (guardD_ret b2 _ ?_)
    refine ⟨?_, ?_⟩
    · simp only [go_sem, ↓reduceIte, reduceCtorEq, Nat.reduceEqDiff, Nat.reduceBEq, Int.reduceBEq, Int.reduceBNe, Nat.reduceLT, Nat.reduceLeDiff, Nat.reduceAdd, Nat.reduceSub, Nat.reduceMul, Int.reduceToNat, Int.reduceEq, Int.reduceLT, Int.reduceLE, hrow]
      simp [resPre, go_sem, hrow]
    · refine ⟨σ1, hsl1 _, ?_⟩
      simp only [go_sem, ↓reduceIte, reduceCtorEq, Nat.reduceEqDiff, Nat.reduceBEq, Int.reduceBEq, Int.reduceBNe, Nat.reduceLT, Nat.reduceLeDiff, Nat.reduceAdd, Nat.reduceSub, Nat.reduceMul, Int.reduceToNat, Int.reduceEq, Int.reduceLT, Int.reduceLE, hrow]
      exact hret
  · simp only [go_sem, ↓reduceIte, reduceCtorEq, Nat.reduceEqDiff, Nat.reduceBEq, Int.reduceBEq, Int.reduceBNe, Nat.reduceLT, Nat.reduceLeDiff, Nat.reduceAdd, Nat.reduceSub, Nat.reduceMul, Int.reduceToNat, Int.reduceEq, Int.reduceLT, Int.reduceLE]
    refine Pan.ofL hC Try.func16 (guardD_pan b2 0 n _ hb3 fun σ' hle => ?_)
    have hrow2 := hle b2 _ (hrow n)
    refine ⟨?_, ?_⟩
    · simp [resPre, go_sem, hrow2]
    · refine ⟨σ1, (hsl1 _).trans hle, ?_⟩
      simp only [go_sem, ↓reduceIte, reduceCtorEq, Nat.reduceEqDiff, Nat.reduceBEq, Int.reduceBEq, Int.reduceBNe, Nat.reduceLT, Nat.reduceLeDiff, Nat.reduceAdd, Nat.reduceSub, Nat.reduceMul, Int.reduceToNat, Int.reduceEq, Int.reduceLT, Int.reduceLE, hrow2]
      exact hret
end Go.Ab.S21
