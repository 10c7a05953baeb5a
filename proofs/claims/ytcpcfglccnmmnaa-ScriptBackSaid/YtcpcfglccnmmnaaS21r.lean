/- Layer 21: pack.U32, pack.Text. -/
import Derived.Test.YtcpcfglccnmmnaaS21q
set_option linter.unusedSimpArgs false
set_option linter.unusedVariables false
set_option linter.constructorNameAsVariable false
namespace Go.Ab.S21
open Go Go.Proofs

theorem oget_row {sz : Nat} {ob : Option Nat} {xs : List D} {σ : Store} (h : ob = none → xs = []) : oget sz ob (cellsOf ob sz xs ++ σ) = some xs := by
  rw [oget_cells]
  split
  · rename_i h1; rw [h h1]
  · rfl

theorem u32_own (ob : Option Nat) (n : Nat) (xs : List D) (v : Nat) (σ : Store) (hx : oget 1 ob σ = some xs) (hn : n ≤ xs.length) (hp : ∀ x ∈ xs, x.cells.length = 1 ∧ x.plain = true) (hl : xs.length < 2 ^ 39) (h0 : ob = none → n = 0) (hv : v < 2 ^ 32) :
    ACalls Try.prog 45 [.own ob 1 n, .v (.int .u32 v)] σ (fun e σ' => ∃ b, sget b σ = none ∧ e = .ret (.own (some b) 1 (n + 4)) ∧ σ' = (b, .arr 1 (xs.take n ++ (le v 4).map bD)) :: σ) := by
  refine ACalls.of_body Try.func45 rfl Try.ntmps45 (by simp) fun C hC => ?_
  repeat' (first | refine Goes.seq ?_ | refine Goes.skip ?_ | refine Goes.inBlock ?_ | refine Goes.block ?_ | refine Goes.exit rfl ?_ | (refine Goes.region [0, 1] fun K hK => ?_; simp (maxSteps := 4000000) only [go_sem, ↓reduceIte, reduceCtorEq, Nat.reduceEqDiff, Nat.reduceBEq, Int.reduceBEq, Int.reduceBNe, Nat.reduceLT, Nat.reduceLeDiff, Nat.reduceAdd, Nat.reduceSub, Nat.reduceMul, Int.reduceToNat, Int.reduceEq, Int.reduceLT, Int.reduceLE]; refine hK _ _ ?_; clear hK K))
  refine Goes.region [0, 1] fun K hK => ?_; simp (maxSteps := 4000000) only [go_sem, ↓reduceIte, reduceCtorEq, Nat.reduceEqDiff, Nat.reduceBEq, Int.reduceBEq, Int.reduceBNe, Nat.reduceLT, Nat.reduceLeDiff, Nat.reduceAdd, Nat.reduceSub, Nat.reduceMul, Int.reduceToNat, Int.reduceEq, Int.reduceLT, Int.reduceLE]
  refine ⟨_, Try.call49, (put32_own ob n xs v 4 σ hx hn hp hl h0 hv (by omega)).mono ?_⟩
  rintro e σ1 ⟨o1, hf1, hz1, rfl, rfl⟩
  obtain ⟨b1, rfl⟩ : ∃ b, o1 = some b := by
    cases o1 with
    | none => have := hz1 rfl; omega
    | some b => exact ⟨b, rfl⟩
  simp only [go_sem, ↓reduceIte, reduceCtorEq, Nat.reduceEqDiff, Nat.reduceBEq, Int.reduceBEq, Int.reduceBNe, Nat.reduceLT, Nat.reduceLeDiff, Nat.reduceAdd, Nat.reduceSub, Nat.reduceMul, Int.reduceToNat, Int.reduceEq, Int.reduceLT, Int.reduceLE]
  refine hK _ _ ?_
  refine Goes.ret hC Try.func45 (by simp [go_sem]) ?_
  simp only [go_sem, ↓reduceIte, reduceCtorEq, Nat.reduceEqDiff, Nat.reduceBEq, Int.reduceBEq, Int.reduceBNe, Nat.reduceLT, Nat.reduceLeDiff, Nat.reduceAdd, Nat.reduceSub, Nat.reduceMul, Int.reduceToNat, Int.reduceEq, Int.reduceLT, Int.reduceLE]
  exact ⟨b1, hf1 b1 rfl, rfl, rfl⟩

theorem text_own (ob : Option Nat) (n : Nat) (xs : List D) (s : ByteArray) (σ : Store) (hx : oget 1 ob σ = some xs) (hn : n ≤ xs.length) (hp : ∀ x ∈ xs, x.cells.length = 1 ∧ x.plain = true) (hl : xs.length < 2 ^ 39) (h0 : ob = none → n = 0) (hs : s.size < 2 ^ 39) :
    ACalls Try.prog 44 [.own ob 1 n, .v (.string s)] σ (fun e σ' => if 65535 < s.size then e = .ret (.tup [.v (.slice none 0 0), .v (.int .i64 3)]) ∧ σ' = σ else
      ∃ b, sget b σ = none ∧ e = .ret (.tup [.own (some b) 1 (n + 2 + s.size), .v (.int .i64 0)]) ∧ σ' = (b, .arr 1 (xs.take n ++ (le s.size 2).map bD ++ s.data.toList.map bD)) :: σ) := by
  refine ACalls.of_body Try.func44 rfl Try.ntmps44 (by simp) fun C hC => ?_
  repeat' (first | refine Goes.seq ?_ | refine Goes.skip ?_ | refine Goes.inBlock ?_ | refine Goes.block ?_ | refine Goes.exit rfl ?_ | (refine Goes.region [0, 1, 4, 5] fun K hK => ?_; simp (maxSteps := 4000000) only [go_sem, ↓reduceIte, reduceCtorEq, Nat.reduceEqDiff, Nat.reduceBEq, Int.reduceBEq, Int.reduceBNe, Nat.reduceLT, Nat.reduceLeDiff, Nat.reduceAdd, Nat.reduceSub, Nat.reduceMul, Int.reduceToNat, Int.reduceEq, Int.reduceLT, Int.reduceLE]; refine hK _ _ ?_; clear hK K))
  refine Goes.cond rfl (fun h => ?_) (fun h => ?_)
  · have hlt : 65535 < s.size := by have := of_decide_eq_true h; omega
    repeat' (first | refine Goes.seq ?_ | refine Goes.skip ?_ | refine Goes.inBlock ?_ | refine Goes.block ?_ | refine Goes.exit rfl ?_ | (refine Goes.region [4, 5] fun K hK => ?_; simp (maxSteps := 4000000) only [go_sem, ↓reduceIte, reduceCtorEq, Nat.reduceEqDiff, Nat.reduceBEq, Int.reduceBEq, Int.reduceBNe, Nat.reduceLT, Nat.reduceLeDiff, Nat.reduceAdd, Nat.reduceSub, Nat.reduceMul, Int.reduceToNat, Int.reduceEq, Int.reduceLT, Int.reduceLE]; refine hK _ _ ?_; clear hK K))
    refine Goes.ret hC Try.func44 (by simp [go_sem]) ?_
    simp only [go_sem, ↓reduceIte, reduceCtorEq, Nat.reduceEqDiff, Nat.reduceBEq, Int.reduceBEq, Int.reduceBNe, Nat.reduceLT, Nat.reduceLeDiff, Nat.reduceAdd, Nat.reduceSub, Nat.reduceMul, Int.reduceToNat, Int.reduceEq, Int.reduceLT, Int.reduceLE]
    simp [hlt]
  · have hle : ¬ 65535 < s.size := by have := of_decide_eq_false h; omega
    have hw : IntKind.u16.wrap (s.size : Int) = ((s.size : Nat) : Int) := by simp [IntKind.wrap, IntKind.bits, IntKind.signed]; omega
    repeat' (first | refine Goes.seq ?_ | refine Goes.skip ?_ | refine Goes.inBlock ?_ | refine Goes.block ?_ | refine Goes.exit rfl ?_ | (refine Goes.region [0, 1] fun K hK => ?_; simp (maxSteps := 4000000) only [go_sem, ↓reduceIte, reduceCtorEq, Nat.reduceEqDiff, Nat.reduceBEq, Int.reduceBEq, Int.reduceBNe, Nat.reduceLT, Nat.reduceLeDiff, Nat.reduceAdd, Nat.reduceSub, Nat.reduceMul, Int.reduceToNat, Int.reduceEq, Int.reduceLT, Int.reduceLE]; refine hK _ _ ?_; clear hK K))
    refine Goes.region [0, 1] fun K hK => ?_; simp (maxSteps := 4000000) only [go_sem, ↓reduceIte, reduceCtorEq, Nat.reduceEqDiff, Nat.reduceBEq, Int.reduceBEq, Int.reduceBNe, Nat.reduceLT, Nat.reduceLeDiff, Nat.reduceAdd, Nat.reduceSub, Nat.reduceMul, Int.reduceToNat, Int.reduceEq, Int.reduceLT, Int.reduceLE, hw]
    refine ⟨_, Try.call48, (put16_own ob n xs s.size 2 σ hx hn hp hl h0 (by omega) (by omega)).mono ?_⟩
    rintro e σ1 ⟨o1, hf1, hz1, rfl, rfl⟩
    obtain ⟨b1, rfl⟩ : ∃ b, o1 = some b := by
      cases o1 with
      | none => have := hz1 rfl; omega
      | some b => exact ⟨b, rfl⟩
    have hlen1 : (List.take n xs ++ (le s.size 2).map bD).length = n + 2 := by simp [le]; omega
    have htk : List.take (n + 2) (List.take n xs ++ (le s.size 2).map bD) = List.take n xs ++ (le s.size 2).map bD := List.take_of_length_le (by omega)
    have hb1 : sget b1 σ = none := hf1 b1 rfl
    simp only [go_sem, ↓reduceIte, reduceCtorEq, Nat.reduceEqDiff, Nat.reduceBEq, Int.reduceBEq, Int.reduceBNe, Nat.reduceLT, Nat.reduceLeDiff, Nat.reduceAdd, Nat.reduceSub, Nat.reduceMul, Int.reduceToNat, Int.reduceEq, Int.reduceLT, Int.reduceLE, hlen1, htk, hb1]
    have hl3 : (List.map bD s.data.toList).length = s.size := by simp
    have hall : (List.take n xs ++ (le s.size 2).map bD ++ s.data.toList.map bD).length = n + 2 + s.size := by rw [List.length_append, hlen1, hl3]
    refine ⟨⟨by omega, fun y hy => ?_, by omega, by omega⟩, fun o2 hz2 hf2 => ?_⟩
    · obtain ⟨c, _, rfl⟩ := List.mem_map.1 hy; exact ⟨rfl, rfl⟩
    obtain ⟨b2, rfl⟩ : ∃ b, o2 = some b := by
      cases o2 with
      | none => have := hz2 rfl; rw [this] at hall; simp at hall; omega
      | some b => exact ⟨b, rfl⟩
    refine hK _ _ ?_
    refine Goes.ret hC Try.func44 (by simp [go_sem]) ?_
    simp only [go_sem, ↓reduceIte, reduceCtorEq, Nat.reduceEqDiff, Nat.reduceBEq, Int.reduceBEq, Int.reduceBNe, Nat.reduceLT, Nat.reduceLeDiff, Nat.reduceAdd, Nat.reduceSub, Nat.reduceMul, Int.reduceToNat, Int.reduceEq, Int.reduceLT, Int.reduceLE, hall]
    rw [if_neg hle]
    exact ⟨b2, hf2 b2 rfl, rfl, rfl⟩
end Go.Ab.S21
