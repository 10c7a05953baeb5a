/- Layer 21: the writer's methods. -/
import Derived.Test.YtcpcfglccnmmnaaS21r
set_option linter.unusedSimpArgs false
set_option linter.unusedVariables false
set_option linter.constructorNameAsVariable false
namespace Go.Ab.S21
open Go Go.Proofs

/-- A writer's box at w, whose bytes are bs, in the row o. -/
structure W (w : Nat) (o : Option Nat) (bs : List UInt8) (xs : List D) (σ : Store) : Prop where
  box : sget w σ = some (.arr 1 [.agg [.own o 1 bs.length]])
  row : oget 1 o σ = some xs
  len : bs.length ≤ xs.length
  bytes : xs.take bs.length = bs.map bD
  plain : ∀ x ∈ xs, x.cells.length = 1 ∧ x.plain = true
  room : xs.length < 2 ^ 38
  ne : o ≠ some w
  zero : o = none → bs.length = 0

/-- What a call of one of the writer's methods leaves of the store. -/
structure Grows (w : Nat) (o o' : Option Nat) (σ σ' : Store) : Prop where
  keep : ∀ b x, b ≠ w → o ≠ some b → sget b σ = some x → sget b σ' = some x
  new : o' = o ∨ ∀ b, o' = some b → sget b σ = none

theorem number_calls (w : Nat) (o : Option Nat) (bs : List UInt8) (xs : List D) (n least : Int) (σ : Store) (hW : W w o bs xs σ) :
    ACalls Try.prog 36 [.ptr w 1 0 0, .v (.int .i64 n), .v (.int .i64 least)] σ (fun e σ' =>
      if least ≤ n ∧ n < 2147483648 then e = .ret (.tup []) ∧ ∃ b, sget b σ = none ∧ σ' = (b, .arr 1 ((bs ++ le (n % 4294967296).toNat 4).map bD)) :: sset w (.arr 1 [.agg [.own (some b) 1 (bs.length + 4)]]) σ
      else e = .panic (.ifc 73 (.agg [.v (.int .i64 1)])) ∧ σ' = σ) := by
  obtain ⟨hbox, hrow, hlen, hbytes, hplain, hroom, hne, hzero⟩ := hW
  refine ACalls.of_body Try.func36 rfl Try.ntmps36 (by simp) fun C hC => ?_
  repeat' (first | refine Goes.seq ?_ | refine Goes.skip ?_ | refine Goes.inBlock ?_ | refine Goes.block ?_ | refine Goes.exit rfl ?_ | (refine Goes.region [0, 1, 2] fun K hK => ?_; simp (maxSteps := 4000000) only [go_sem, ↓reduceIte, reduceCtorEq, Nat.reduceEqDiff, Nat.reduceBEq, Int.reduceBEq, Int.reduceBNe, Nat.reduceLT, Nat.reduceLeDiff, Nat.reduceAdd, Nat.reduceSub, Nat.reduceMul, Int.reduceToNat, Int.reduceEq, Int.reduceLT, Int.reduceLE]; refine hK _ _ ?_; clear hK K))
  refine Goes.region [0, 1, 2] fun K hK => ?_; simp (maxSteps := 4000000) only [go_sem, ↓reduceIte, reduceCtorEq, Nat.reduceEqDiff, Nat.reduceBEq, Int.reduceBEq, Int.reduceBNe, Nat.reduceLT, Nat.reduceLeDiff, Nat.reduceAdd, Nat.reduceSub, Nat.reduceMul, Int.reduceToNat, Int.reduceEq, Int.reduceLT, Int.reduceLE]
  refine ite_intro (fun hge => ?_) (fun hge => ?_)
  · have hge' : least ≤ n := of_decide_eq_true hge
    refine ⟨_, Try.call34, (need_calls _ _ _ _).mono ?_⟩
    rintro e σ1 ⟨rfl, rfl⟩
    by_cases hlt : n < 2147483648
    · rw [decide_eq_true hlt]
      simp only [go_sem, ↓reduceIte, reduceCtorEq, Nat.reduceEqDiff, Nat.reduceBEq, Int.reduceBEq, Int.reduceBNe, Nat.reduceLT, Nat.reduceLeDiff, Nat.reduceAdd, Nat.reduceSub, Nat.reduceMul, Int.reduceToNat, Int.reduceEq, Int.reduceLT, Int.reduceLE]
      refine hK _ _ ?_; clear hK K
      have hbl : sget w σ1 = some (AObj.arr 1 [D.agg [D.own o 1 bs.length]]) := hbox
      have hwrap : IntKind.u32.wrap n = (((n % 4294967296).toNat : Nat) : Int) := by simp [IntKind.wrap, IntKind.bits, IntKind.signed]; omega
      refine Goes.region [0, 1] fun K hK => ?_; simp (maxSteps := 4000000) only [go_sem, ↓reduceIte, reduceCtorEq, Nat.reduceEqDiff, Nat.reduceBEq, Int.reduceBEq, Int.reduceBNe, Nat.reduceLT, Nat.reduceLeDiff, Nat.reduceAdd, Nat.reduceSub, Nat.reduceMul, Int.reduceToNat, Int.reduceEq, Int.reduceLT, Int.reduceLE, hbox, hwrap]
      refine ⟨_, Try.call45, (u32_own o bs.length xs _ σ1 hrow hlen hplain (by omega) hzero (by omega)).mono ?_⟩
      rintro e σ2 ⟨b, hb, rfl, rfl⟩
      simp only [go_sem, ↓reduceIte, reduceCtorEq, Nat.reduceEqDiff, Nat.reduceBEq, Int.reduceBEq, Int.reduceBNe, Nat.reduceLT, Nat.reduceLeDiff, Nat.reduceAdd, Nat.reduceSub, Nat.reduceMul, Int.reduceToNat, Int.reduceEq, Int.reduceLT, Int.reduceLE, hb, hbox]
      refine hK _ _ ?_
      refine Goes.done hC Try.func36 (by simp [go_sem]) ?_
      simp only [go_sem, ↓reduceIte, reduceCtorEq, Nat.reduceEqDiff, Nat.reduceBEq, Int.reduceBEq, Int.reduceBNe, Nat.reduceLT, Nat.reduceLeDiff, Nat.reduceAdd, Nat.reduceSub, Nat.reduceMul, Int.reduceToNat, Int.reduceEq, Int.reduceLT, Int.reduceLE]
      rw [if_pos ⟨hge', hlt⟩, hbytes, ← List.map_append]
      exact ⟨b, hb, rfl⟩
    · rw [decide_eq_false hlt]
      simp only [go_sem, ↓reduceIte, reduceCtorEq, Nat.reduceEqDiff, Nat.reduceBEq, Int.reduceBEq, Int.reduceBNe, Nat.reduceLT, Nat.reduceLeDiff, Nat.reduceAdd, Nat.reduceSub, Nat.reduceMul, Int.reduceToNat, Int.reduceEq, Int.reduceLT, Int.reduceLE]
      exact Pan.of hC Try.func36 (by rw [if_neg (by omega)]; exact ⟨rfl, rfl⟩)
  · have hge' : ¬ least ≤ n := by simpa using hge
    refine ⟨_, Try.call34, (need_calls _ _ _ _).mono ?_⟩
    rintro e σ1 ⟨rfl, rfl⟩
    simp only [go_sem, ↓reduceIte, reduceCtorEq, Nat.reduceEqDiff, Nat.reduceBEq, Int.reduceBEq, Int.reduceBNe, Nat.reduceLT, Nat.reduceLeDiff, Nat.reduceAdd, Nat.reduceSub, Nat.reduceMul, Int.reduceToNat, Int.reduceEq, Int.reduceLT, Int.reduceLE]
    exact Pan.of hC Try.func36 (by rw [if_neg (by omega)]; exact ⟨rfl, rfl⟩)

theorem wtext_calls (w : Nat) (o : Option Nat) (bs : List UInt8) (xs : List D) (s : ByteArray) (σ : Store) (hW : W w o bs xs σ) (hs : s.size < 2 ^ 38) :
    ACalls Try.prog 35 [.ptr w 1 0 0, .v (.string s)] σ (fun e σ' =>
      if 65535 < s.size then e = .panic (.ifc 73 (.agg [.v (.int .i64 3)])) ∧ σ' = σ
      else e = .ret (.tup []) ∧ ∃ b, sget b σ = none ∧ σ' = (b, .arr 1 ((bs ++ le s.size 2 ++ s.data.toList).map bD)) :: sset w (.arr 1 [.agg [.own (some b) 1 (bs.length + 2 + s.size)]]) σ) := by
  obtain ⟨hbox, hrow, hlen, hbytes, hplain, hroom, hne, hzero⟩ := hW
  refine ACalls.of_body Try.func35 rfl Try.ntmps35 (by simp) fun C hC => ?_
  repeat' (first | refine Goes.seq ?_ | refine Goes.skip ?_ | refine Goes.inBlock ?_ | refine Goes.block ?_ | refine Goes.exit rfl ?_ | (refine Goes.region [0, 1] fun K hK => ?_; simp (maxSteps := 4000000) only [go_sem, ↓reduceIte, reduceCtorEq, Nat.reduceEqDiff, Nat.reduceBEq, Int.reduceBEq, Int.reduceBNe, Nat.reduceLT, Nat.reduceLeDiff, Nat.reduceAdd, Nat.reduceSub, Nat.reduceMul, Int.reduceToNat, Int.reduceEq, Int.reduceLT, Int.reduceLE]; refine hK _ _ ?_; clear hK K))
  refine Goes.region [0, 1] fun K hK => ?_; simp (maxSteps := 4000000) only [go_sem, ↓reduceIte, reduceCtorEq, Nat.reduceEqDiff, Nat.reduceBEq, Int.reduceBEq, Int.reduceBNe, Nat.reduceLT, Nat.reduceLeDiff, Nat.reduceAdd, Nat.reduceSub, Nat.reduceMul, Int.reduceToNat, Int.reduceEq, Int.reduceLT, Int.reduceLE, hbox]
  refine ⟨_, Try.call44, (text_own o bs.length xs s σ hrow hlen hplain (by omega) hzero (by omega)).mono ?_⟩
  intro e σ1 h1
  by_cases hlong : 65535 < s.size
  · rw [if_pos hlong] at h1
    obtain ⟨rfl, rfl⟩ := h1
    simp only [go_sem, ↓reduceIte, reduceCtorEq, Nat.reduceEqDiff, Nat.reduceBEq, Int.reduceBEq, Int.reduceBNe, Nat.reduceLT, Nat.reduceLeDiff, Nat.reduceAdd, Nat.reduceSub, Nat.reduceMul, Int.reduceToNat, Int.reduceEq, Int.reduceLT, Int.reduceLE]
    refine hK _ _ ?_; clear hK K
    repeat' (first | refine Goes.seq ?_ | refine Goes.skip ?_ | refine Goes.inBlock ?_ | refine Goes.block ?_ | refine Goes.exit rfl ?_ | (refine Goes.region [0, 4, 5] fun K hK => ?_; simp (maxSteps := 4000000) only [go_sem, ↓reduceIte, reduceCtorEq, Nat.reduceEqDiff, Nat.reduceBEq, Int.reduceBEq, Int.reduceBNe, Nat.reduceLT, Nat.reduceLeDiff, Nat.reduceAdd, Nat.reduceSub, Nat.reduceMul, Int.reduceToNat, Int.reduceEq, Int.reduceLT, Int.reduceLE]; refine hK _ _ ?_; clear hK K))
    refine Goes.region [0, 4, 5] fun K hK => ?_; simp (maxSteps := 4000000) only [go_sem, ↓reduceIte, reduceCtorEq, Nat.reduceEqDiff, Nat.reduceBEq, Int.reduceBEq, Int.reduceBNe, Nat.reduceLT, Nat.reduceLeDiff, Nat.reduceAdd, Nat.reduceSub, Nat.reduceMul, Int.reduceToNat, Int.reduceEq, Int.reduceLT, Int.reduceLE]
    refine ⟨_, Try.call34, (need_calls _ _ _ _).mono ?_⟩
    rintro e σ1 ⟨rfl, rfl⟩
    simp only [go_sem, ↓reduceIte, reduceCtorEq, Nat.reduceEqDiff, Nat.reduceBEq, Int.reduceBEq, Int.reduceBNe, Nat.reduceLT, Nat.reduceLeDiff, Nat.reduceAdd, Nat.reduceSub, Nat.reduceMul, Int.reduceToNat, Int.reduceEq, Int.reduceLT, Int.reduceLE]
    exact Pan.of hC Try.func35 (by rw [if_pos hlong]; exact ⟨rfl, rfl⟩)
  · rw [if_neg hlong] at h1
    obtain ⟨b, hb, rfl, rfl⟩ := h1
    simp only [go_sem, ↓reduceIte, reduceCtorEq, Nat.reduceEqDiff, Nat.reduceBEq, Int.reduceBEq, Int.reduceBNe, Nat.reduceLT, Nat.reduceLeDiff, Nat.reduceAdd, Nat.reduceSub, Nat.reduceMul, Int.reduceToNat, Int.reduceEq, Int.reduceLT, Int.reduceLE]
    refine hK _ _ ?_; clear hK K
    repeat' (first | refine Goes.seq ?_ | refine Goes.skip ?_ | refine Goes.inBlock ?_ | refine Goes.block ?_ | refine Goes.exit rfl ?_ | (refine Goes.region [0, 4, 5] fun K hK => ?_; simp (maxSteps := 4000000) only [go_sem, ↓reduceIte, reduceCtorEq, Nat.reduceEqDiff, Nat.reduceBEq, Int.reduceBEq, Int.reduceBNe, Nat.reduceLT, Nat.reduceLeDiff, Nat.reduceAdd, Nat.reduceSub, Nat.reduceMul, Int.reduceToNat, Int.reduceEq, Int.reduceLT, Int.reduceLE]; refine hK _ _ ?_; clear hK K))
    refine Goes.region [0, 4, 5] fun K hK => ?_; simp (maxSteps := 4000000) only [go_sem, ↓reduceIte, reduceCtorEq, Nat.reduceEqDiff, Nat.reduceBEq, Int.reduceBEq, Int.reduceBNe, Nat.reduceLT, Nat.reduceLeDiff, Nat.reduceAdd, Nat.reduceSub, Nat.reduceMul, Int.reduceToNat, Int.reduceEq, Int.reduceLT, Int.reduceLE]
    refine ⟨_, Try.call34, (need_calls _ _ _ _).mono ?_⟩
    rintro e σ1 ⟨rfl, rfl⟩
    simp only [go_sem, ↓reduceIte, reduceCtorEq, Nat.reduceEqDiff, Nat.reduceBEq, Int.reduceBEq, Int.reduceBNe, Nat.reduceLT, Nat.reduceLeDiff, Nat.reduceAdd, Nat.reduceSub, Nat.reduceMul, Int.reduceToNat, Int.reduceEq, Int.reduceLT, Int.reduceLE]
    refine hK _ _ ?_; clear hK K
    repeat' (first | refine Goes.seq ?_ | refine Goes.skip ?_ | refine Goes.inBlock ?_ | refine Goes.block ?_ | refine Goes.exit rfl ?_ | (refine Goes.region [0, 4] fun K hK => ?_; simp (maxSteps := 4000000) only [go_sem, ↓reduceIte, reduceCtorEq, Nat.reduceEqDiff, Nat.reduceBEq, Int.reduceBEq, Int.reduceBNe, Nat.reduceLT, Nat.reduceLeDiff, Nat.reduceAdd, Nat.reduceSub, Nat.reduceMul, Int.reduceToNat, Int.reduceEq, Int.reduceLT, Int.reduceLE]; refine hK _ _ ?_; clear hK K))
    refine Goes.region [0, 4] fun K hK => ?_; simp (maxSteps := 4000000) only [go_sem, ↓reduceIte, reduceCtorEq, Nat.reduceEqDiff, Nat.reduceBEq, Int.reduceBEq, Int.reduceBNe, Nat.reduceLT, Nat.reduceLeDiff, Nat.reduceAdd, Nat.reduceSub, Nat.reduceMul, Int.reduceToNat, Int.reduceEq, Int.reduceLT, Int.reduceLE, hb, hbox]
    refine hK _ _ ?_; clear hK K
    refine Goes.done hC Try.func35 (by simp [go_sem]) ?_
    simp only [go_sem, ↓reduceIte, reduceCtorEq, Nat.reduceEqDiff, Nat.reduceBEq, Int.reduceBEq, Int.reduceBNe, Nat.reduceLT, Nat.reduceLeDiff, Nat.reduceAdd, Nat.reduceSub, Nat.reduceMul, Int.reduceToNat, Int.reduceEq, Int.reduceLT, Int.reduceLE]
    rw [if_neg hlong, hbytes, ← List.map_append, ← List.map_append]
    exact ⟨b, hb, rfl⟩
end Go.Ab.S21
