/- Layer 21: ScriptBack, as the abstract machine tells it. -/
import Derived.Test.YtcpcfglccnmmnaaB21b
set_option linter.unusedSimpArgs false
set_option linter.unusedVariables false
set_option linter.constructorNameAsVariable false
namespace Go.Ab.S21
open Go Go.Proofs

theorem law_back (l : List XAct) (bs : List UInt8) : ACalls Try.prog 6 [actsD l, .slc (bs.map bD)] [] (fun e _ => e = .ret (.v (.bool true))) := by
  have hll : (bs.map bD).length = bs.length := List.length_map ..
  refine ACalls.of_body Try.func6 rfl Try.ntmps6 (by simp) fun C hC => ?_
  have ret : ∀ k env σ, eget 4 env = .v (.bool true) → Goes C (.code .ret :: k) env σ := fun k env σ h1 => by
    refine Goes.ret hC Try.func6 (by simp [go_sem]) ?_
    simp only [go_sem, ↓reduceIte, reduceCtorEq, Nat.reduceEqDiff, Nat.reduceBEq, Int.reduceBEq, Int.reduceBNe, Nat.reduceLT, Nat.reduceLeDiff, Nat.reduceAdd, Nat.reduceSub, Nat.reduceMul, Int.reduceToNat, Int.reduceEq, Int.reduceLT, Int.reduceLE, h1]
  refine Goes.seq ?_
  refine Goes.region [0, 1] fun K hK => ?_; simp (maxSteps := 4000000) only [go_sem, ↓reduceIte, reduceCtorEq, Nat.reduceEqDiff, Nat.reduceBEq, Int.reduceBEq, Int.reduceBNe, Nat.reduceLT, Nat.reduceLeDiff, Nat.reduceAdd, Nat.reduceSub, Nat.reduceMul, Int.reduceToNat, Int.reduceEq, Int.reduceLT, Int.reduceLE]
  refine hK _ _ ?_; clear hK K
  refine Goes.seq (Goes.join (fun env σ => eget 0 env = actsD l ∧ eget 1 env = .slc (bs.map bD) ∧ lightB l = true ∧ bs.length ≤ 3000) ?_ ?_)
  · intro k' hk'
    refine Goes.seq ?_
    refine Goes.region [0, 1] fun K hK => ?_; simp (maxSteps := 4000000) only [go_sem, ↓reduceIte, reduceCtorEq, Nat.reduceEqDiff, Nat.reduceBEq, Int.reduceBEq, Int.reduceBNe, Nat.reduceLT, Nat.reduceLeDiff, Nat.reduceAdd, Nat.reduceSub, Nat.reduceMul, Int.reduceToNat, Int.reduceEq, Int.reduceLT, Int.reduceLE]
    refine ⟨_, Try.call7, (light_calls l _).mono ?_⟩
    rintro e σ1 ⟨rfl, rfl⟩
    cases hL : lightB l with
    | false =>
      simp only [go_sem, ↓reduceIte, reduceCtorEq, Nat.reduceEqDiff, Nat.reduceBEq, Int.reduceBEq, Int.reduceBNe, Nat.reduceLT, Nat.reduceLeDiff, Nat.reduceAdd, Nat.reduceSub, Nat.reduceMul, Int.reduceToNat, Int.reduceEq, Int.reduceLT, Int.reduceLE, Bool.not_false]
      refine hK _ _ (Goes.condT rfl ?_); clear hK K
      repeat' (first | refine Goes.seq ?_ | refine Goes.skip ?_ | refine Goes.inBlock ?_ | refine Goes.block ?_ | refine Goes.exit rfl ?_ | (refine Goes.region [0] fun K hK => ?_; simp (maxSteps := 4000000) only [go_sem, ↓reduceIte, reduceCtorEq, Nat.reduceEqDiff, Nat.reduceBEq, Int.reduceBEq, Int.reduceBNe, Nat.reduceLT, Nat.reduceLeDiff, Nat.reduceAdd, Nat.reduceSub, Nat.reduceMul, Int.reduceToNat, Int.reduceEq, Int.reduceLT, Int.reduceLE]; refine hK _ _ ?_; clear hK K))
      exact ret _ _ _ rfl
    | true =>
      simp only [go_sem, ↓reduceIte, reduceCtorEq, Nat.reduceEqDiff, Nat.reduceBEq, Int.reduceBEq, Int.reduceBNe, Nat.reduceLT, Nat.reduceLeDiff, Nat.reduceAdd, Nat.reduceSub, Nat.reduceMul, Int.reduceToNat, Int.reduceEq, Int.reduceLT, Int.reduceLE, Bool.not_true]
      refine hK _ _ (Goes.cond rfl (fun h => ?_) (fun h => ?_)); all_goals clear hK K
      · repeat' (first | refine Goes.seq ?_ | refine Goes.skip ?_ | refine Goes.inBlock ?_ | refine Goes.block ?_ | refine Goes.exit rfl ?_ | (refine Goes.region [0] fun K hK => ?_; simp (maxSteps := 4000000) only [go_sem, ↓reduceIte, reduceCtorEq, Nat.reduceEqDiff, Nat.reduceBEq, Int.reduceBEq, Int.reduceBNe, Nat.reduceLT, Nat.reduceLeDiff, Nat.reduceAdd, Nat.reduceSub, Nat.reduceMul, Int.reduceToNat, Int.reduceEq, Int.reduceLT, Int.reduceLE]; refine hK _ _ ?_; clear hK K))
        exact ret _ _ _ rfl
      · exact Goes.skip (hk' _ _ ⟨rfl, rfl, hL, by simp at h; omega⟩)
  rintro env σ ⟨e0, e1, hL, hb⟩
  obtain ⟨h40, hall⟩ := light_all hL
  have hfit : ∀ x ∈ l, x.Fits := fun x hx => (light_fits (hall x hx)).1
  have hab := light_bytes hall
  refine Goes.seq (Goes.join (fun env σ => eget 0 env = actsD l ∧ eget 1 env = .slc (bs.map bD)) ?_ ?_)
  · intro k' hk'
    refine Goes.seq ?_
    refine Goes.region [0, 1] fun K hK => ?_; simp (maxSteps := 4000000) only [go_sem, ↓reduceIte, reduceCtorEq, Nat.reduceEqDiff, Nat.reduceBEq, Int.reduceBEq, Int.reduceBNe, Nat.reduceLT, Nat.reduceLeDiff, Nat.reduceAdd, Nat.reduceSub, Nat.reduceMul, Int.reduceToNat, Int.reduceEq, Int.reduceLT, Int.reduceLE, e0, e1]
    refine ⟨_, Try.call9, (of_calls l _ (by omega) fun x hx => by have := hfit x hx; exact ⟨by have := this.by_; omega, by have := this.many; omega, by have := this.tails; omega⟩).mono ?_⟩
    rintro e σ1 ⟨rfl, rfl⟩
    simp only [go_sem, ↓reduceIte, reduceCtorEq, Nat.reduceEqDiff, Nat.reduceBEq, Int.reduceBEq, Int.reduceBNe, Nat.reduceLT, Nat.reduceLeDiff, Nat.reduceAdd, Nat.reduceSub, Nat.reduceMul, Int.reduceToNat, Int.reduceEq, Int.reduceLT, Int.reduceLE]
    refine ⟨_, Try.call8, (write_slc l _ hfit (by omega) (by omega)).mono ?_⟩
    rintro e σ1 ⟨rfl, rfl⟩
    by_cases hc : firstWrong l = 0
    · rw [if_pos hc]
      simp only [go_sem, ↓reduceIte, reduceCtorEq, Nat.reduceEqDiff, Nat.reduceBEq, Int.reduceBEq, Int.reduceBNe, Nat.reduceLT, Nat.reduceLeDiff, Nat.reduceAdd, Nat.reduceSub, Nat.reduceMul, Int.reduceToNat, Int.reduceEq, Int.reduceLT, Int.reduceLE]
      refine hK _ _ ?_; clear hK K
      refine Goes.seq ?_
      refine Goes.region [0, 1, 5, 6] fun K hK => ?_; simp (maxSteps := 4000000) only [go_sem, ↓reduceIte, reduceCtorEq, Nat.reduceEqDiff, Nat.reduceBEq, Int.reduceBEq, Int.reduceBNe, Nat.reduceLT, Nat.reduceLeDiff, Nat.reduceAdd, Nat.reduceSub, Nat.reduceMul, Int.reduceToNat, Int.reduceEq, Int.reduceLT, Int.reduceLE, e0, e1]
      refine hK _ _ (Goes.condT rfl ?_); clear hK K
      refine Goes.seq ?_
      refine Goes.region [0, 1, 5] fun K hK => ?_; simp (maxSteps := 4000000) only [go_sem, ↓reduceIte, reduceCtorEq, Nat.reduceEqDiff, Nat.reduceBEq, Int.reduceBEq, Int.reduceBNe, Nat.reduceLT, Nat.reduceLeDiff, Nat.reduceAdd, Nat.reduceSub, Nat.reduceMul, Int.reduceToNat, Int.reduceEq, Int.reduceLT, Int.reduceLE, e0, e1]
      have hrw := read_write l (allBytes l).length (Nat.le_refl _) hc hfit
      refine ⟨_, Try.call13, (read_calls (allBytes l) _ (by omega)).mono ?_⟩
      rintro e σ2 ⟨rfl, rfl⟩
      rw [hrw]
      unfold readE
      simp only [go_sem, ↓reduceIte, reduceCtorEq, Nat.reduceEqDiff, Nat.reduceBEq, Int.reduceBEq, Int.reduceBNe, Nat.reduceLT, Nat.reduceLeDiff, Nat.reduceAdd, Nat.reduceSub, Nat.reduceMul, Int.reduceToNat, Int.reduceEq, Int.reduceLT, Int.reduceLE]
      refine hK _ _ ?_; clear hK K
      refine Goes.seq ?_
      refine Goes.region [0, 1, 7, 8] fun K hK => ?_; simp (maxSteps := 4000000) only [go_sem, ↓reduceIte, reduceCtorEq, Nat.reduceEqDiff, Nat.reduceBEq, Int.reduceBEq, Int.reduceBNe, Nat.reduceLT, Nat.reduceLeDiff, Nat.reduceAdd, Nat.reduceSub, Nat.reduceMul, Int.reduceToNat, Int.reduceEq, Int.reduceLT, Int.reduceLE, e0, e1]
      refine ⟨_, Try.call15, (told_calls l _ (by omega) (fun x hx => by have := hfit x hx; exact ⟨by have := this.many; omega, by have := this.tails; omega⟩)).mono ?_⟩
      rintro e σ3 ⟨rfl, rfl⟩
      simp only [go_sem, ↓reduceIte, reduceCtorEq, Nat.reduceEqDiff, Nat.reduceBEq, Int.reduceBEq, Int.reduceBNe, Nat.reduceLT, Nat.reduceLeDiff, Nat.reduceAdd, Nat.reduceSub, Nat.reduceMul, Int.reduceToNat, Int.reduceEq, Int.reduceLT, Int.reduceLE, Bool.not_true]
      refine hK _ _ (Goes.condF rfl (Goes.skip (hk' _ _ ⟨rfl, rfl⟩)))
    · rw [if_neg hc]
      have hcb : (firstWrong l == 0) = false := by simpa using hc
      simp only [go_sem, ↓reduceIte, reduceCtorEq, Nat.reduceEqDiff, Nat.reduceBEq, Int.reduceBEq, Int.reduceBNe, Nat.reduceLT, Nat.reduceLeDiff, Nat.reduceAdd, Nat.reduceSub, Nat.reduceMul, Int.reduceToNat, Int.reduceEq, Int.reduceLT, Int.reduceLE]
      refine hK _ _ ?_; clear hK K
      refine Goes.seq ?_
      refine Goes.region [0, 1, 5, 6] fun K hK => ?_; simp (maxSteps := 4000000) only [go_sem, ↓reduceIte, reduceCtorEq, Nat.reduceEqDiff, Nat.reduceBEq, Int.reduceBEq, Int.reduceBNe, Nat.reduceLT, Nat.reduceLeDiff, Nat.reduceAdd, Nat.reduceSub, Nat.reduceMul, Int.reduceToNat, Int.reduceEq, Int.reduceLT, Int.reduceLE, e0, e1, hcb]
      refine hK _ _ (Goes.condF rfl (Goes.skip (hk' _ _ ⟨rfl, rfl⟩)))
  clear e0 e1 env σ
  rintro env σ ⟨e0, e1⟩
  refine Goes.seq (Goes.join (fun env σ => True) ?_ ?_)
  · intro k' hk'
    refine Goes.seq ?_
    refine Goes.region [0, 1] fun K hK => ?_; simp (maxSteps := 4000000) only [go_sem, ↓reduceIte, reduceCtorEq, Nat.reduceEqDiff, Nat.reduceBEq, Int.reduceBEq, Int.reduceBNe, Nat.reduceLT, Nat.reduceLeDiff, Nat.reduceAdd, Nat.reduceSub, Nat.reduceMul, Int.reduceToNat, Int.reduceEq, Int.reduceLT, Int.reduceLE, e0, e1]
    refine ⟨_, Try.call13, (read_calls bs _ (by omega)).mono ?_⟩
    rintro e σ2 ⟨rfl, rfl⟩
    cases hx : readR bs.length bs with
    | err c =>
      unfold readE
      have hc0 : (c == 0) = false := by rcases readR_errs _ hx with h | h <;> rw [h] <;> rfl
      simp only [go_sem, ↓reduceIte, reduceCtorEq, Nat.reduceEqDiff, Nat.reduceBEq, Int.reduceBEq, Int.reduceBNe, Nat.reduceLT, Nat.reduceLeDiff, Nat.reduceAdd, Nat.reduceSub, Nat.reduceMul, Int.reduceToNat, Int.reduceEq, Int.reduceLT, Int.reduceLE]
      refine hK _ _ ?_; clear hK K
      refine Goes.seq ?_
      refine Goes.region [0, 1, 9, 10] fun K hK => ?_; simp (maxSteps := 4000000) only [go_sem, ↓reduceIte, reduceCtorEq, Nat.reduceEqDiff, Nat.reduceBEq, Int.reduceBEq, Int.reduceBNe, Nat.reduceLT, Nat.reduceLeDiff, Nat.reduceAdd, Nat.reduceSub, Nat.reduceMul, Int.reduceToNat, Int.reduceEq, Int.reduceLT, Int.reduceLE, e0, e1, hc0]
      refine hK _ _ (Goes.condF rfl (Goes.skip (hk' _ _ trivial)))
    | ok l2 b2 =>
      obtain ⟨w1, w2, w3, w4⟩ := write_read _ _ _ _ (Nat.le_refl _) (by omega) hx
      unfold readE
      simp only [go_sem, ↓reduceIte, reduceCtorEq, Nat.reduceEqDiff, Nat.reduceBEq, Int.reduceBEq, Int.reduceBNe, Nat.reduceLT, Nat.reduceLeDiff, Nat.reduceAdd, Nat.reduceSub, Nat.reduceMul, Int.reduceToNat, Int.reduceEq, Int.reduceLT, Int.reduceLE]
      refine hK _ _ ?_; clear hK K
      refine Goes.seq ?_
      refine Goes.region [0, 1, 9, 10] fun K hK => ?_; simp (maxSteps := 4000000) only [go_sem, ↓reduceIte, reduceCtorEq, Nat.reduceEqDiff, Nat.reduceBEq, Int.reduceBEq, Int.reduceBNe, Nat.reduceLT, Nat.reduceLeDiff, Nat.reduceAdd, Nat.reduceSub, Nat.reduceMul, Int.reduceToNat, Int.reduceEq, Int.reduceLT, Int.reduceLE, e0, e1]
      refine hK _ _ (Goes.condT rfl ?_); clear hK K
      refine Goes.seq ?_
      refine Goes.region [0, 1, 9] fun K hK => ?_; simp (maxSteps := 4000000) only [go_sem, ↓reduceIte, reduceCtorEq, Nat.reduceEqDiff, Nat.reduceBEq, Int.reduceBEq, Int.reduceBNe, Nat.reduceLT, Nat.reduceLeDiff, Nat.reduceAdd, Nat.reduceSub, Nat.reduceMul, Int.reduceToNat, Int.reduceEq, Int.reduceLT, Int.reduceLE, e0, e1]
      refine ⟨_, Try.call8, (write_slc l2 _ w3 (by rw [w1]; omega) (by omega)).mono ?_⟩
      rintro e σ3 ⟨rfl, rfl⟩
      rw [if_pos w2, w1]
      simp only [go_sem, ↓reduceIte, reduceCtorEq, Nat.reduceEqDiff, Nat.reduceBEq, Int.reduceBEq, Int.reduceBNe, Nat.reduceLT, Nat.reduceLeDiff, Nat.reduceAdd, Nat.reduceSub, Nat.reduceMul, Int.reduceToNat, Int.reduceEq, Int.reduceLT, Int.reduceLE]
      refine hK _ _ ?_; clear hK K
      have hsn : ∀ s : ByteArray, (!(s.toList == s.toList)) = false := fun s => by simp
      refine Goes.seq ?_
      refine Goes.region [1, 11, 12] fun K hK => ?_; simp (maxSteps := 4000000) only [go_sem, ↓reduceIte, reduceCtorEq, Nat.reduceEqDiff, Nat.reduceBEq, Int.reduceBEq, Int.reduceBNe, Nat.reduceLT, Nat.reduceLeDiff, Nat.reduceAdd, Nat.reduceSub, Nat.reduceMul, Int.reduceToNat, Int.reduceEq, Int.reduceLT, Int.reduceLE, e0, e1, hsn]
      refine ⟨fun y hy => List.all_eq_true.1 (allByte_bD _) y hy, fun y hy => List.all_eq_true.1 (allByte_bD _) y hy, ?_⟩
      refine hK _ _ (Goes.condF rfl (Goes.skip (hk' _ _ trivial)))
  clear e0 e1 env σ
  rintro env σ -
  refine Goes.seq ?_
  refine Goes.region [] fun K hK => ?_; simp (maxSteps := 4000000) only [go_sem, ↓reduceIte, reduceCtorEq, Nat.reduceEqDiff, Nat.reduceBEq, Int.reduceBEq, Int.reduceBNe, Nat.reduceLT, Nat.reduceLeDiff, Nat.reduceAdd, Nat.reduceSub, Nat.reduceMul, Int.reduceToNat, Int.reduceEq, Int.reduceLT, Int.reduceLE]
  refine ⟨_, Try.call11, (awake_calls _).mono ?_⟩
  rintro e σ4 ⟨rfl, rfl⟩
  simp only [go_sem, ↓reduceIte, reduceCtorEq, Nat.reduceEqDiff, Nat.reduceBEq, Int.reduceBEq, Int.reduceBNe, Nat.reduceLT, Nat.reduceLeDiff, Nat.reduceAdd, Nat.reduceSub, Nat.reduceMul, Int.reduceToNat, Int.reduceEq, Int.reduceLT, Int.reduceLE]
  refine hK _ _ ?_; clear hK K
  exact ret _ _ _ rfl

theorem back_true (xs : List D) (h : WTvs [.slice actT, .slice (.int .u8)] xs) : ACalls Try.prog 6 xs [] (fun e _ => e = .ret (.v (.bool true))) := by
  obtain ⟨d, ds, rfl, h1, h2⟩ := h
  obtain ⟨d2, ds2, rfl, h3, h4⟩ := h2
  unfold WTvs at h4
  subst h4
  obtain ⟨l, rfl⟩ := wt_acts h1
  obtain ⟨bs, rfl⟩ := wt_bytesv h3
  exact law_back l bs
end Go.Ab.S21
