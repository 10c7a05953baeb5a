/- Layer 21: which fields a kind has. -/
import Derived.Test.YtcpcfglccnmmnaaS21w
set_option linter.unusedSimpArgs false
set_option linter.unusedVariables false
set_option linter.constructorNameAsVariable false
namespace Go.Ab.S21
open Go Go.Proofs

/-- name, bytes, number, names, tails; known? -/
def fieldsD (k : Int) : List Bool × Bool :=
  if k = 1 ∨ k = 2 then ([true, true, false, false, false], true)
  else if k = 3 then ([true, false, true, false, false], true)
  else if k = 4 ∨ k = 5 ∨ k = 11 then ([true, false, false, false, false], true)
  else if k = 6 then ([false, false, false, true, false], true)
  else if k = 7 ∨ k = 8 then ([false, false, false, false, false], true)
  else if k = 9 then ([false, false, true, false, false], true)
  else if k = 10 then ([false, false, true, false, true], true)
  else ([false, false, false, false, false], false)

set_option maxHeartbeats 4000000 in
theorem fields_calls (k : Int) (σ : Store) : ACalls Try.prog 33 [.v (.int .i64 k)] σ (fun e σ' => e = .ret (.tup [.agg ((fieldsD k).1.map fun b => .v (.bool b)), .v (.bool (fieldsD k).2)]) ∧ σ' = σ) := by
  refine ACalls.forget (R := fun e σ' => e = .ret (.tup [.agg ((fieldsD k).1.map fun b => .v (.bool b)), .v (.bool (fieldsD k).2)]) ∧ SLe σ σ') ?_ fun e σ' h => ⟨σ, h.2, h.1, rfl⟩
  refine ACalls.of_body Try.func33 rfl Try.ntmps33 (by simp) fun C hC => ?_
  refine Goes.seq ?_
  refine Goes.region [0] fun K hK => ?_; simp (maxSteps := 4000000) only [go_sem, ↓reduceIte, reduceCtorEq, Nat.reduceEqDiff, Nat.reduceBEq, Int.reduceBEq, Int.reduceBNe, Nat.reduceLT, Nat.reduceLeDiff, Nat.reduceAdd, Nat.reduceSub, Nat.reduceMul, Int.reduceToNat, Int.reduceEq, Int.reduceLT, Int.reduceLE]
  intro b hb
  refine hK _ _ ?_; clear hK K
  have hle : ∀ x, SLe σ ((b, x) :: σ) := fun x => sle_cons (SLe.refl σ) hb
  have key : k = 1 ∨ k = 2 ∨ k = 3 ∨ k = 4 ∨ k = 5 ∨ k = 6 ∨ k = 7 ∨ k = 8 ∨ k = 9 ∨ k = 10 ∨ k = 11 ∨ (k ≠ 1 ∧ k ≠ 2 ∧ k ≠ 3 ∧ k ≠ 4 ∧ k ≠ 5 ∧ k ≠ 6 ∧ k ≠ 7 ∧ k ≠ 8 ∧ k ≠ 9 ∧ k ≠ 10 ∧ k ≠ 11) := by omega
  rcases key with rfl | rfl | rfl | rfl | rfl | rfl | rfl | rfl | rfl | rfl | rfl | ⟨n1, n2, n3, n4, n5, n6, n7, n8, n9, n10, n11⟩
  case inr.inr.inr.inr.inr.inr.inr.inr.inr.inr.inr =>
    have e : ∀ j : Int, k ≠ j → (k == j) = false := fun j h => by simpa using h
    have m1 := e _ n1; have m2 := e _ n2; have m3 := e _ n3; have m4 := e _ n4; have m5 := e _ n5; have m6 := e _ n6; have m7 := e _ n7; have m8 := e _ n8; have m9 := e _ n9; have m10 := e _ n10; have m11 := e _ n11
    repeat' first
      | refine Goes.seq ?_ | refine Goes.skip ?_ | refine Goes.inBlock ?_ | refine Goes.block ?_ | refine Goes.exit rfl ?_
      | (refine Goes.region [0, 2, 3, 4, 5, 9, 12, 17, 20, 24, 27] fun K hK => ?_; simp only [go_sem, ↓reduceIte, reduceCtorEq, Nat.reduceEqDiff, Nat.reduceBEq, Int.reduceBEq, Int.reduceBNe, Nat.reduceLT, Nat.reduceLeDiff, Nat.reduceAdd, Nat.reduceSub, Nat.reduceMul, Int.reduceToNat, Int.reduceEq, Int.reduceLT, Int.reduceLE, m1, m2, m3, m4, m5, m6, m7, m8, m9, m10, m11]; refine hK _ _ ?_; clear hK K)
      | refine Goes.condT rfl ?_
      | refine Goes.condF rfl ?_
      | (refine Goes.ret hC Try.func33 (by simp [go_sem]) ?_; simp only [go_sem, ↓reduceIte, reduceCtorEq, Nat.reduceEqDiff, Nat.reduceBEq, Int.reduceBEq, Int.reduceBNe, Nat.reduceLT, Nat.reduceLeDiff, Nat.reduceAdd, Nat.reduceSub, Nat.reduceMul, Int.reduceToNat, Int.reduceEq, Int.reduceLT, Int.reduceLE]; refine ⟨?_, hle _⟩)
    simp [fieldsD, n1, n2, n3, n4, n5, n6, n7, n8, n9, n10, n11]
  all_goals
    repeat' first
      | refine Goes.seq ?_ | refine Goes.skip ?_ | refine Goes.inBlock ?_ | refine Goes.block ?_ | refine Goes.exit rfl ?_
      | (refine Goes.region [0, 2, 3, 4, 5, 9, 12, 17, 20, 24, 27] fun K hK => ?_; simp only [go_sem, ↓reduceIte, reduceCtorEq, Nat.reduceEqDiff, Nat.reduceBEq, Int.reduceBEq, Int.reduceBNe, Nat.reduceLT, Nat.reduceLeDiff, Nat.reduceAdd, Nat.reduceSub, Nat.reduceMul, Int.reduceToNat, Int.reduceEq, Int.reduceLT, Int.reduceLE]; refine hK _ _ ?_; clear hK K)
      | refine Goes.condT rfl ?_
      | refine Goes.condF rfl ?_
      | (refine Goes.ret hC Try.func33 (by simp [go_sem]) ?_; simp only [go_sem, ↓reduceIte, reduceCtorEq, Nat.reduceEqDiff, Nat.reduceBEq, Int.reduceBEq, Int.reduceBNe, Nat.reduceLT, Nat.reduceLeDiff, Nat.reduceAdd, Nat.reduceSub, Nat.reduceMul, Int.reduceToNat, Int.reduceEq, Int.reduceLT, Int.reduceLE]; refine ⟨?_, hle _⟩)
    rfl
end Go.Ab.S21
