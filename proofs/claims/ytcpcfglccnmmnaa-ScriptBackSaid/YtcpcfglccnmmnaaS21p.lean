/- Layer 21: numbers and texts that are put. -/
import Derived.Test.YtcpcfglccnmmnaaS21g
set_option linter.unusedSimpArgs false
set_option linter.unusedVariables false
set_option linter.constructorNameAsVariable false
namespace Go.Ab.S21
open Go Go.Proofs

/-- The first k bytes of a number, the least one first. -/
def le (v : Nat) (k : Nat) : List UInt8 := (List.range k).map fun i => UInt8.ofNat (v / 256 ^ i % 256)

theorem le_succ (v k : Nat) : le v (k + 1) = le v k ++ [UInt8.ofNat (v / 256 ^ k % 256)] := by simp [le, List.range_succ]

theorem shr_byte (v i : Nat) (hi : i < 4) : IntKind.u8.wrap ((v : Int).fdiv (2 ^ min (8 * i) 32)) = ((UInt8.ofNat (v / 256 ^ i % 256)).toNat : Int) := by
  have h1 : min (8 * i) 32 = 8 * i := by omega
  have h2 : (2 : Int) ^ (8 * i) = ((256 ^ i : Nat) : Int) := by
    have : i = 0 ∨ i = 1 ∨ i = 2 ∨ i = 3 := by omega
    rcases this with rfl | rfl | rfl | rfl <;> rfl
  have h3 : (UInt8.ofNat (v / 256 ^ i % 256)).toNat = v / 256 ^ i % 256 := by simp
  rw [h1, h2, h3]
  rw [show (v : Int).fdiv ((256 ^ i : Nat) : Int) = ((v / 256 ^ i : Nat) : Int) from (by rw [Int.fdiv_eq_ediv_of_nonneg _ (Int.natCast_nonneg _)]; rfl)]
  simp [IntKind.wrap, IntKind.bits, IntKind.signed]

theorem put32_own (ob : Option Nat) (n : Nat) (xs : List D) (v many : Nat) (σ : Store) (hx : oget 1 ob σ = some xs) (hn : n ≤ xs.length) (hp : ∀ x ∈ xs, x.cells.length = 1 ∧ x.plain = true) (hl : xs.length < 2 ^ 39) (h0 : ob = none → n = 0)
    (hv : v < 2 ^ 32) (hm : many < 5) :
    ACalls Try.prog 49 [.own ob 1 n, .v (.int .u32 v), .v (.int .i64 many)] σ (fun e σ' => ∃ ob', Fresh ob' σ ∧ (ob' = none → n + many = 0) ∧ e = .ret (.own ob' 1 (n + many)) ∧ σ' = cellsOf ob' 1 (xs.take n ++ (le v many).map bD) ++ σ) := by
  refine ACalls.of_body Try.func49 rfl Try.ntmps49 (by simp) fun C hC => ?_
  repeat' (first | refine Goes.seq ?_ | refine Goes.skip ?_ | refine Goes.inBlock ?_ | refine Goes.block ?_ | refine Goes.exit rfl ?_ | (refine Goes.region [0, 1, 2, 6] fun K hK => ?_; simp (maxSteps := 4000000) only [go_sem, ↓reduceIte, reduceCtorEq, Nat.reduceEqDiff, Nat.reduceBEq, Int.reduceBEq, Int.reduceBNe, Nat.reduceLT, Nat.reduceLeDiff, Nat.reduceAdd, Nat.reduceSub, Nat.reduceMul, Int.reduceToNat, Int.reduceEq, Int.reduceLT, Int.reduceLE]; refine hK _ _ ?_; clear hK K))
  refine Goes.region [0, 1, 2, 6] fun K hK => ?_; simp (maxSteps := 4000000) only [go_sem, ↓reduceIte, reduceCtorEq, Nat.reduceEqDiff, Nat.reduceBEq, Int.reduceBEq, Int.reduceBNe, Nat.reduceLT, Nat.reduceLeDiff, Nat.reduceAdd, Nat.reduceSub, Nat.reduceMul, Int.reduceToNat, Int.reduceEq, Int.reduceLT, Int.reduceLE]
  refine ⟨_, Try.call37, (clone_own ob n xs σ hx hn hp (by omega) h0).mono ?_⟩
  rintro e σ1 ⟨o1, hf1, hz1, rfl, rfl⟩
  simp only [go_sem, ↓reduceIte, reduceCtorEq, Nat.reduceEqDiff, Nat.reduceBEq, Int.reduceBEq, Int.reduceBNe, Nat.reduceLT, Nat.reduceLeDiff, Nat.reduceAdd, Nat.reduceSub, Nat.reduceMul, Int.reduceToNat, Int.reduceEq, Int.reduceLT, Int.reduceLE]
  have hlen : (List.take n xs).length = n := by simp; omega
  have hg1 : oget 1 o1 (cellsOf o1 1 (xs.take n) ++ σ) = some (xs.take n) := by
    rw [oget_cells]
    split
    · rename_i h; rw [hz1 h]; rfl
    · rfl
  refine ⟨_, Try.call52, (grow_own o1 n (xs.take n) many _ hg1 (by omega) (by omega) (by omega) (by omega) hz1).mono ?_⟩
  rintro e σ2 ⟨o2, rfl, hσ2⟩
  simp only [go_sem, ↓reduceIte, reduceCtorEq, Nat.reduceEqDiff, Nat.reduceBEq, Int.reduceBEq, Int.reduceBNe, Nat.reduceLT, Nat.reduceLeDiff, Nat.reduceAdd, Nat.reduceSub, Nat.reduceMul, Int.reduceToNat, Int.reduceEq, Int.reduceLT, Int.reduceLE]
  refine hK _ _ ?_; clear hK K
  have hσ : ∃ s, SLe s σ2 ∧ (o2 = none → n = 0) ∧ Fresh o2 σ ∧ s = cellsOf o2 1 (xs.take n) ++ σ := by
    rcases hσ2 with ⟨rfl, rfl⟩ | ⟨nb, rfl, hnb, rfl⟩
    · exact ⟨_, SLe.refl _, hz1, hf1, rfl⟩
    · refine ⟨_, ?_, by simp, ?_, rfl⟩
      · rw [List.take_take, Nat.min_self]
        exact sle_cons_cons (sle_cells hf1)
      · exact fresh_some.2 (none_of_sle (sle_cells hf1) hnb)
  obtain ⟨s, hle, hz2, hf2, rfl⟩ := hσ
  refine Goes.le (ELe.refl _) hle ?_
  clear hle hσ2 hf1 hz1 hg1
  repeat' (first | refine Goes.seq ?_ | refine Goes.skip ?_ | refine Goes.inBlock ?_ | refine Goes.block ?_ | refine Goes.exit rfl ?_ | (refine Goes.region [0, 1, 2, 6, 7] fun K hK => ?_; simp (maxSteps := 4000000) only [go_sem, ↓reduceIte, reduceCtorEq, Nat.reduceEqDiff, Nat.reduceBEq, Int.reduceBEq, Int.reduceBNe, Nat.reduceLT, Nat.reduceLeDiff, Nat.reduceAdd, Nat.reduceSub, Nat.reduceMul, Int.reduceToNat, Int.reduceEq, Int.reduceLT, Int.reduceLE]; refine hK _ _ ?_; clear hK K))
  refine Goes.rebase [1, 7, 13, 14] ?_
  simp only [go_sem, ↓reduceIte, reduceCtorEq, Nat.reduceEqDiff, Nat.reduceBEq, Int.reduceBEq, Int.reduceBNe, Nat.reduceLT, Nat.reduceLeDiff, Nat.reduceAdd, Nat.reduceSub, Nat.reduceMul, Int.reduceToNat, Int.reduceEq, Int.reduceLT, Int.reduceLE]
  refine Goes.while (fun (i : Nat) env σ' => i ≤ many ∧ ∃ o, Fresh o σ ∧ (o = none → n + i = 0) ∧ env = [(1, .v (.int .u32 v)), (7, .own o 1 (n + i)), (13, .v (.int .i64 (many : Int))), (14, .v (.int .i64 (i : Int)))] ∧ σ' = cellsOf o 1 (xs.take n ++ (le v i).map bD) ++ σ) (fun i => many - i) 0
    ⟨by omega, o2, hf2, by simpa using hz2, rfl, by simp [le]⟩ ?_
  rintro i env σ' ⟨hi, o, hf, hz, rfl, rfl⟩ ih
  repeat' (first | refine Goes.seq ?_ | refine Goes.skip ?_ | refine Goes.inBlock ?_ | refine Goes.block ?_ | refine Goes.exit rfl ?_ | (refine Goes.region [1, 7, 13, 14] fun K hK => ?_; simp (maxSteps := 4000000) only [go_sem, ↓reduceIte, reduceCtorEq, Nat.reduceEqDiff, Nat.reduceBEq, Int.reduceBEq, Int.reduceBNe, Nat.reduceLT, Nat.reduceLeDiff, Nat.reduceAdd, Nat.reduceSub, Nat.reduceMul, Int.reduceToNat, Int.reduceEq, Int.reduceLT, Int.reduceLE]; refine hK _ _ ?_; clear hK K))
  refine Goes.cond rfl (fun h => ?_) (fun h => ?_)
  · have hlt : i < many := by simpa using h
    have hlen1 : (List.take n xs ++ (le v i).map bD).length = n + i := by simp [le]; omega
    have hg1 : oget 1 o (cellsOf o 1 (xs.take n ++ (le v i).map bD) ++ σ) = some (xs.take n ++ (le v i).map bD) := by
      rw [oget_cells]
      split
      · rename_i h; have h3 := hz h; have h4 : (List.take n xs ++ (le v i).map bD).length = 0 := by omega
        rw [List.eq_nil_of_length_eq_zero h4]
      · rfl
    repeat' (first | refine Goes.seq ?_ | refine Goes.skip ?_ | refine Goes.inBlock ?_ | refine Goes.block ?_ | refine Goes.exit rfl ?_ | (refine Goes.region [1, 7, 13, 14] fun K hK => ?_; simp (maxSteps := 4000000) only [go_sem, ↓reduceIte, reduceCtorEq, Nat.reduceEqDiff, Nat.reduceBEq, Int.reduceBEq, Int.reduceBNe, Nat.reduceLT, Nat.reduceLeDiff, Nat.reduceAdd, Nat.reduceSub, Nat.reduceMul, Int.reduceToNat, Int.reduceEq, Int.reduceLT, Int.reduceLE]; refine hK _ _ ?_; clear hK K))
    have h8 : IntKind.i64.wrap (8 * (i : Int)) = ((8 * i : Nat) : Int) := by rw [IntKind.wrap_i64]; omega
    have htk : List.take (n + i) (List.take n xs ++ (le v i).map bD) = List.take n xs ++ (le v i).map bD := List.take_of_length_le (by omega)
    have hb8 : IntKind.u8.wrap ((v : Int).fdiv (2 ^ min (8 * i) 32)) = ((UInt8.ofNat (v / 256 ^ i % 256)).toNat : Int) := shr_byte v i (by omega)
    have hnew : bD (UInt8.ofNat (v / 256 ^ i % 256)) = .v (.int .u8 ((UInt8.ofNat (v / 256 ^ i % 256)).toNat : Int)) := rfl
    have hrow : List.take n xs ++ (le v i).map bD ++ [.v (.int .u8 ((UInt8.ofNat (v / 256 ^ i % 256)).toNat : Int))] = List.take n xs ++ (le v (i + 1)).map bD := by rw [le_succ, List.map_append, List.append_assoc]; rfl
    have hlen2 : (List.take n xs ++ (le v (i + 1)).map bD).length = n + (i + 1) := by simp [le]; omega
    refine Goes.regionM [1, 7, 8, 13, 14] [23] fun K hK => ?_; simp (maxSteps := 4000000) only [go_sem, ↓reduceIte, reduceCtorEq, Nat.reduceEqDiff, Nat.reduceBEq, Int.reduceBEq, Int.reduceBNe, Nat.reduceLT, Nat.reduceLeDiff, Nat.reduceAdd, Nat.reduceSub, Nat.reduceMul, Int.reduceToNat, Int.reduceEq, Int.reduceLT, Int.reduceLE, hg1, hlen1, h8, htk, hb8, sdelo_cells hf, hrow, hlen2]
    refine ⟨by omega, ⟨by omega, fun y hy => by subst hy; exact ⟨rfl, rfl⟩, by omega, by omega⟩, fun o' hz' hf' => hK _ _ ?_⟩
    clear hK K
    repeat' (first | refine Goes.seq ?_ | refine Goes.skip ?_ | refine Goes.inBlock ?_ | refine Goes.block ?_ | refine Goes.exit rfl ?_ | (refine Goes.region [1, 7, 13, 14] fun K hK => ?_; simp (maxSteps := 4000000) only [go_sem, ↓reduceIte, reduceCtorEq, Nat.reduceEqDiff, Nat.reduceBEq, Int.reduceBEq, Int.reduceBNe, Nat.reduceLT, Nat.reduceLeDiff, Nat.reduceAdd, Nat.reduceSub, Nat.reduceMul, Int.reduceToNat, Int.reduceEq, Int.reduceLT, Int.reduceLE]; refine hK _ _ ?_; clear hK K))
    refine Goes.rebase [1, 7, 13, 14] ?_
    simp only [go_sem, ↓reduceIte, reduceCtorEq, Nat.reduceEqDiff, Nat.reduceBEq, Int.reduceBEq, Int.reduceBNe, Nat.reduceLT, Nat.reduceLeDiff, Nat.reduceAdd, Nat.reduceSub, Nat.reduceMul, Int.reduceToNat, Int.reduceEq, Int.reduceLT, Int.reduceLE]
    rw [wrap_succ i (by omega)]
    refine ih (i + 1) _ _ ⟨by omega, o', hf', fun h => ?_, rfl, rfl⟩ (by omega)
    have := hz' h
    rw [this] at hlen2
    exact hlen2.symm
  · have hge : i = many := by have : ¬ i < many := by simpa using h
                              omega
    subst hge
    repeat' (first | refine Goes.seq ?_ | refine Goes.skip ?_ | refine Goes.inBlock ?_ | refine Goes.block ?_ | refine Goes.exit rfl ?_ | (refine Goes.region [1, 7, 13, 14] fun K hK => ?_; simp (maxSteps := 4000000) only [go_sem, ↓reduceIte, reduceCtorEq, Nat.reduceEqDiff, Nat.reduceBEq, Int.reduceBEq, Int.reduceBNe, Nat.reduceLT, Nat.reduceLeDiff, Nat.reduceAdd, Nat.reduceSub, Nat.reduceMul, Int.reduceToNat, Int.reduceEq, Int.reduceLT, Int.reduceLE]; refine hK _ _ ?_; clear hK K))
    refine Goes.ret hC Try.func49 (by simp [go_sem]) ?_
    simp only [go_sem, ↓reduceIte, reduceCtorEq, Nat.reduceEqDiff, Nat.reduceBEq, Int.reduceBEq, Int.reduceBNe, Nat.reduceLT, Nat.reduceLeDiff, Nat.reduceAdd, Nat.reduceSub, Nat.reduceMul, Int.reduceToNat, Int.reduceEq, Int.reduceLT, Int.reduceLE]
    exact ⟨o, hf, hz, rfl, rfl⟩
end Go.Ab.S21
