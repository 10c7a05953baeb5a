/- Layer 21: the small functions. -/
import Derived.Test.YtcpcfglccnmmnaaAbS
set_option linter.unusedSimpArgs false
set_option linter.unusedVariables false
set_option linter.constructorNameAsVariable false
namespace Go.Ab.S21
open Go Go.Proofs

def hasB (s : ByteArray) (f : Int) : Bool := s.data.toList.any fun c => (c.toNat : Int) == f

theorem has_calls (s : ByteArray) (f : Int) (σ : Store) (hs : s.size < 4611686018427387904) : ACalls Try.prog 20 [.v (.string s), .v (.int .u8 f)] σ (fun e σ' => e = .ret (.v (.bool (hasB s f))) ∧ σ' = σ) := by
  refine ACalls.of_body Try.func20 rfl Try.ntmps20 (by simp) fun C hC => ?_
  repeat' (first | refine Goes.seq ?_ | refine Goes.skip ?_ | refine Goes.inBlock ?_ | refine Goes.block ?_ | refine Goes.exit rfl ?_ | (refine Goes.region [0, 1, 5] fun K hK => ?_; simp (maxSteps := 4000000) only [go_sem, ↓reduceIte, reduceCtorEq, Nat.reduceEqDiff, Nat.reduceBEq, Int.reduceBEq, Int.reduceBNe, Nat.reduceLT, Nat.reduceLeDiff, Nat.reduceAdd, Nat.reduceSub, Nat.reduceMul, Int.reduceToNat, Int.reduceEq, Int.reduceLT, Int.reduceLE]; refine hK _ _ ?_; clear hK K))
  refine Goes.rebase [0, 1, 5] ?_
  simp only [go_sem, ↓reduceIte, reduceCtorEq, Nat.reduceEqDiff, Nat.reduceBEq, Int.reduceBEq, Int.reduceBNe, Nat.reduceLT, Nat.reduceLeDiff, Nat.reduceAdd, Nat.reduceSub, Nat.reduceMul, Int.reduceToNat, Int.reduceEq, Int.reduceLT, Int.reduceLE]
  have hsz : s.data.toList.length = s.size := by simp
  refine Goes.while (fun (i : Nat) env σ' => i ≤ s.size ∧ (s.data.toList.take i).any (fun c => (c.toNat : Int) == f) = false ∧ env = [(0, .v (.string s)), (1, .v (.int .u8 f)), (5, .v (.int .i64 (i : Int)))] ∧ σ' = σ) (fun i => s.size - i) 0 ⟨by simp, by simp, rfl, rfl⟩ ?_
  rintro i env σ' ⟨hi, hno, rfl, rfl⟩ ih
  repeat' (first | refine Goes.seq ?_ | refine Goes.skip ?_ | refine Goes.inBlock ?_ | refine Goes.block ?_ | refine Goes.exit rfl ?_ | (refine Goes.region [0, 1, 5] fun K hK => ?_; simp (maxSteps := 4000000) only [go_sem, ↓reduceIte, reduceCtorEq, Nat.reduceEqDiff, Nat.reduceBEq, Int.reduceBEq, Int.reduceBNe, Nat.reduceLT, Nat.reduceLeDiff, Nat.reduceAdd, Nat.reduceSub, Nat.reduceMul, Int.reduceToNat, Int.reduceEq, Int.reduceLT, Int.reduceLE]; refine hK _ _ ?_; clear hK K))
  refine Goes.cond rfl (fun h => ?_) (fun h => ?_)
  · have hlt : i < s.size := by simpa using h
    repeat' (first | refine Goes.seq ?_ | refine Goes.skip ?_ | refine Goes.inBlock ?_ | refine Goes.block ?_ | refine Goes.exit rfl ?_ | (refine Goes.region [0, 1, 5] fun K hK => ?_; simp (maxSteps := 4000000) only [go_sem, ↓reduceIte, reduceCtorEq, Nat.reduceEqDiff, Nat.reduceBEq, Int.reduceBEq, Int.reduceBNe, Nat.reduceLT, Nat.reduceLeDiff, Nat.reduceAdd, Nat.reduceSub, Nat.reduceMul, Int.reduceToNat, Int.reduceEq, Int.reduceLT, Int.reduceLE]; refine hK _ _ ?_; clear hK K))
    refine Goes.region [0, 1, 5] fun K hK => ?_; simp (maxSteps := 4000000) only [go_sem, ↓reduceIte, reduceCtorEq, Nat.reduceEqDiff, Nat.reduceBEq, Int.reduceBEq, Int.reduceBNe, Nat.reduceLT, Nat.reduceLeDiff, Nat.reduceAdd, Nat.reduceSub, Nat.reduceMul, Int.reduceToNat, Int.reduceEq, Int.reduceLT, Int.reduceLE]
    refine ⟨⟨by omega, by omega⟩, hK _ _ ?_⟩; clear hK K
    have hget : s.data.toList[i]? = some (s.data.toList.getD i 0) := by rw [List.getD_eq_getElem?_getD, List.getElem?_eq_getElem (by omega)]; rfl
    have htake : (s.data.toList.take (i + 1)).any (fun c => (c.toNat : Int) == f) = ((s.data.toList.take i).any (fun c => (c.toNat : Int) == f) || ((s.data.toList.getD i 0).toNat : Int) == f) := by
      rw [List.take_add_one, hget]; simp
    refine Goes.cond rfl (fun h => ?_) (fun h => ?_)
    · repeat' (first | refine Goes.seq ?_ | refine Goes.skip ?_ | refine Goes.inBlock ?_ | refine Goes.block ?_ | refine Goes.exit rfl ?_ | (refine Goes.region [4] fun K hK => ?_; simp (maxSteps := 4000000) only [go_sem, ↓reduceIte, reduceCtorEq, Nat.reduceEqDiff, Nat.reduceBEq, Int.reduceBEq, Int.reduceBNe, Nat.reduceLT, Nat.reduceLeDiff, Nat.reduceAdd, Nat.reduceSub, Nat.reduceMul, Int.reduceToNat, Int.reduceEq, Int.reduceLT, Int.reduceLE]; refine hK _ _ ?_; clear hK K))
      refine Goes.ret hC Try.func20 (by simp [go_sem]) ?_
      simp only [go_sem, ↓reduceIte, reduceCtorEq, Nat.reduceEqDiff, Nat.reduceBEq, Int.reduceBEq, Int.reduceBNe, Nat.reduceLT, Nat.reduceLeDiff, Nat.reduceAdd, Nat.reduceSub, Nat.reduceMul, Int.reduceToNat, Int.reduceEq, Int.reduceLT, Int.reduceLE]
      have : hasB s f = true := by
        unfold hasB
        rw [List.any_eq_true]
        exact ⟨_, List.mem_of_getElem? hget, h⟩
      rw [this]
    · repeat' (first | refine Goes.seq ?_ | refine Goes.skip ?_ | refine Goes.inBlock ?_ | refine Goes.block ?_ | refine Goes.exit rfl ?_ | (refine Goes.region [0, 1, 5] fun K hK => ?_; simp (maxSteps := 4000000) only [go_sem, ↓reduceIte, reduceCtorEq, Nat.reduceEqDiff, Nat.reduceBEq, Int.reduceBEq, Int.reduceBNe, Nat.reduceLT, Nat.reduceLeDiff, Nat.reduceAdd, Nat.reduceSub, Nat.reduceMul, Int.reduceToNat, Int.reduceEq, Int.reduceLT, Int.reduceLE]; refine hK _ _ ?_; clear hK K))
      refine Goes.rebase [0, 1, 5] ?_
      simp only [go_sem, ↓reduceIte, reduceCtorEq, Nat.reduceEqDiff, Nat.reduceBEq, Int.reduceBEq, Int.reduceBNe, Nat.reduceLT, Nat.reduceLeDiff, Nat.reduceAdd, Nat.reduceSub, Nat.reduceMul, Int.reduceToNat, Int.reduceEq, Int.reduceLT, Int.reduceLE]
      rw [wrap_succ i (by omega)]
      refine ih (i + 1) _ _ ⟨by omega, ?_, rfl, rfl⟩ (by omega)
      rw [htake, hno, h]; rfl
  · repeat' (first | refine Goes.seq ?_ | refine Goes.skip ?_ | refine Goes.inBlock ?_ | refine Goes.block ?_ | refine Goes.exit rfl ?_ | (refine Goes.region [0, 1, 5] fun K hK => ?_; simp (maxSteps := 4000000) only [go_sem, ↓reduceIte, reduceCtorEq, Nat.reduceEqDiff, Nat.reduceBEq, Int.reduceBEq, Int.reduceBNe, Nat.reduceLT, Nat.reduceLeDiff, Nat.reduceAdd, Nat.reduceSub, Nat.reduceMul, Int.reduceToNat, Int.reduceEq, Int.reduceLT, Int.reduceLE]; refine hK _ _ ?_; clear hK K))
    refine Goes.ret hC Try.func20 (by simp [go_sem]) ?_
    simp only [go_sem, ↓reduceIte, reduceCtorEq, Nat.reduceEqDiff, Nat.reduceBEq, Int.reduceBEq, Int.reduceBNe, Nat.reduceLT, Nat.reduceLeDiff, Nat.reduceAdd, Nat.reduceSub, Nat.reduceMul, Int.reduceToNat, Int.reduceEq, Int.reduceLT, Int.reduceLE]
    have hge : s.size ≤ i := by simpa using h
    have : hasB s f = false := by
      unfold hasB
      rw [← hno, List.take_of_length_le (by omega)]
    rw [this]

/-- need: a panic of the error e where it is not so. -/
theorem need_calls (t : Bool) (k : IntKind) (e : Int) (σ : Store) : ACalls Try.prog 34 [.v (.bool t), .v (.int k e)] σ (fun r σ' => r = (if t = true then .ret (.tup []) else .panic (.ifc 73 (.agg [.v (.int k e)]))) ∧ σ' = σ) := by
  refine ACalls.of_body Try.func34 rfl Try.ntmps34 (by simp) fun C hC => ?_
  repeat' (first | refine Goes.seq ?_ | refine Goes.skip ?_ | refine Goes.inBlock ?_ | refine Goes.block ?_ | refine Goes.exit rfl ?_ | (refine Goes.region [0, 1] fun K hK => ?_; simp (maxSteps := 4000000) only [go_sem, ↓reduceIte, reduceCtorEq, Nat.reduceEqDiff, Nat.reduceBEq, Int.reduceBEq, Int.reduceBNe, Nat.reduceLT, Nat.reduceLeDiff, Nat.reduceAdd, Nat.reduceSub, Nat.reduceMul, Int.reduceToNat, Int.reduceEq, Int.reduceLT, Int.reduceLE]; refine hK _ _ ?_; clear hK K))
  refine Goes.cond rfl (fun h => ?_) (fun h => ?_)
  · refine Goes.region [0, 1] fun K hK => ?_; simp (maxSteps := 4000000) only [go_sem, ↓reduceIte, reduceCtorEq, Nat.reduceEqDiff, Nat.reduceBEq, Int.reduceBEq, Int.reduceBNe, Nat.reduceLT, Nat.reduceLeDiff, Nat.reduceAdd, Nat.reduceSub, Nat.reduceMul, Int.reduceToNat, Int.reduceEq, Int.reduceLT, Int.reduceLE]
    simp only [Bool.not_eq_true'] at h
    subst h
    exact Pan.of hC Try.func34 (by simp)
  · repeat' (first | refine Goes.seq ?_ | refine Goes.skip ?_ | refine Goes.inBlock ?_ | refine Goes.block ?_ | refine Goes.exit rfl ?_ | (refine Goes.region [0, 1] fun K hK => ?_; simp (maxSteps := 4000000) only [go_sem, ↓reduceIte, reduceCtorEq, Nat.reduceEqDiff, Nat.reduceBEq, Int.reduceBEq, Int.reduceBNe, Nat.reduceLT, Nat.reduceLeDiff, Nat.reduceAdd, Nat.reduceSub, Nat.reduceMul, Int.reduceToNat, Int.reduceEq, Int.reduceLT, Int.reduceLE]; refine hK _ _ ?_; clear hK K))
    refine Goes.done hC Try.func34 (by simp [go_sem]) ?_
    simp only [go_sem, ↓reduceIte, reduceCtorEq, Nat.reduceEqDiff, Nat.reduceBEq, Int.reduceBEq, Int.reduceBNe, Nat.reduceLT, Nat.reduceLeDiff, Nat.reduceAdd, Nat.reduceSub, Nat.reduceMul, Int.reduceToNat, Int.reduceEq, Int.reduceLT, Int.reduceLE]
    simp only [Bool.not_eq_false'] at h
    subst h
    simp
end Go.Ab.S21
