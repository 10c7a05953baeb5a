/- Layer 21: the document's numbers. -/
import Derived.Test.YtcpcfglccnmmnaaS21r
set_option linter.unusedSimpArgs false
set_option linter.unusedVariables false
set_option linter.constructorNameAsVariable false
namespace Go.Ab
open Go
section
variable (P : Program) (T : TypeId) (x y : Operand)
@[go_sem] theorem bin_rem (k : IntKind) (a b : Int) (hb : b ≠ 0) : aBin P .rem T x y (.v (.int k a)) (.v (.int k b)) = .val True (.v (.int k (a.tmod b))) := by
  simp [aBin, ifcNil, aBin0, toV, scal, eqGuard, binOp, Op.intDiv, okV, ofV, purely_pure, hb]
@[go_sem] theorem bin_quo (k : IntKind) (a b : Int) (hb : b ≠ 0) : aBin P .quo T x y (.v (.int k a)) (.v (.int k b)) = .val True (.v (.int k (k.wrap (a.tdiv b)))) := by
  simp [aBin, ifcNil, aBin0, toV, scal, eqGuard, binOp, Op.intDiv, okV, ofV, purely_pure, hb]
end
end Go.Ab
namespace Go.Ab.S21
open Go Go.Proofs

theorem le_cons (v k : Nat) : le v (k + 1) = UInt8.ofNat (v % 256) :: le (v / 256) k := by
  unfold le
  rw [List.range_succ_eq_map, List.map_cons, List.map_map]
  simp only [Nat.pow_zero, Nat.div_one, List.cons.injEq, true_and]
  refine List.map_congr_left fun i _ => ?_
  simp only [Function.comp, Nat.pow_succ, Nat.mul_comm (256 ^ i) 256, Nat.div_div_eq_div_mul]

theorem le_add (v i : Nat) : ∀ k, le v (i + k) = le v i ++ le (v / 256 ^ i) k := by
  intro k
  induction k with
  | zero => simp [le]
  | succ k ih => rw [← Nat.add_assoc, le_succ, ih, le_succ, List.append_assoc, Nat.div_div_eq_div_mul, ← Nat.pow_add]

theorem refNumber (v many : Nat) (σ : Store) (hv : v < 18446744073709551616) (hm : many < 9) (h0 : 0 < many) :
    ACalls Try.prog 22 [.v (.int .u64 v), .v (.int .i64 many)] σ (fun e σ' => ∃ b, sget b σ = none ∧ e = .ret (.own (some b) 1 many) ∧ σ' = (b, .arr 1 ((le v many).map bD)) :: σ) := by
  refine ACalls.of_body Try.func22 rfl Try.ntmps22 (by simp) fun C hC => ?_
  repeat' (first | refine Goes.seq ?_ | refine Goes.skip ?_ | refine Goes.inBlock ?_ | refine Goes.block ?_ | refine Goes.exit rfl ?_ | (refine Goes.region [0, 1, 5, 6] fun K hK => ?_; simp (maxSteps := 4000000) only [go_sem, ↓reduceIte, reduceCtorEq, Nat.reduceEqDiff, Nat.reduceBEq, Int.reduceBEq, Int.reduceBNe, Nat.reduceLT, Nat.reduceLeDiff, Nat.reduceAdd, Nat.reduceSub, Nat.reduceMul, Int.reduceToNat, Int.reduceEq, Int.reduceLT, Int.reduceLE]; refine hK _ _ ?_; clear hK K))
  refine Goes.rebase [0, 1, 5, 6] ?_
  simp only [go_sem, ↓reduceIte, reduceCtorEq, Nat.reduceEqDiff, Nat.reduceBEq, Int.reduceBEq, Int.reduceBNe, Nat.reduceLT, Nat.reduceLeDiff, Nat.reduceAdd, Nat.reduceSub, Nat.reduceMul, Int.reduceToNat, Int.reduceEq, Int.reduceLT, Int.reduceLE]
  refine Goes.env_le (env' := [(0, .v (.int .u64 (v : Int))), (1, .v (.int .i64 (many : Int))), (5, .own none 1 0), (6, .v (.int .i64 0))]) ?_ (fun k => ?_)
  rotate_left
  · simp only [eget]
    repeat' split
    all_goals first | exact DLe.refl _ | exact DLe.nil_own 1
  refine Goes.while (fun (i : Nat) env σ' => i ≤ many ∧ ∃ o, Fresh o σ ∧ (o = none → i = 0) ∧ env = [(0, .v (.int .u64 ((v / 256 ^ i : Nat) : Int))), (1, .v (.int .i64 (many : Int))), (5, .own o 1 i), (6, .v (.int .i64 (i : Int)))] ∧ σ' = cellsOf o 1 ((le v i).map bD) ++ σ) (fun i => many - i) 0
    ⟨by omega, none, fresh_none, by simp, by simp, by simp [le, cellsOf]⟩ ?_
  rintro i env σ' ⟨hi, o, hf, hz, rfl, rfl⟩ ih
  have hvi : v / 256 ^ i < 18446744073709551616 := Nat.lt_of_le_of_lt (Nat.div_le_self _ _) hv
  repeat' (first | refine Goes.seq ?_ | refine Goes.skip ?_ | refine Goes.inBlock ?_ | refine Goes.block ?_ | refine Goes.exit rfl ?_ | (refine Goes.region [0, 1, 5, 6] fun K hK => ?_; simp (maxSteps := 4000000) only [go_sem, ↓reduceIte, reduceCtorEq, Nat.reduceEqDiff, Nat.reduceBEq, Int.reduceBEq, Int.reduceBNe, Nat.reduceLT, Nat.reduceLeDiff, Nat.reduceAdd, Nat.reduceSub, Nat.reduceMul, Int.reduceToNat, Int.reduceEq, Int.reduceLT, Int.reduceLE]; refine hK _ _ ?_; clear hK K))
  refine Goes.cond rfl (fun h => ?_) (fun h => ?_)
  · have hlt : i < many := by simpa using h
    have hlen1 : ((le v i).map bD).length = i := by simp [le]
    have hg1 : oget 1 o (cellsOf o 1 ((le v i).map bD) ++ σ) = some ((le v i).map bD) := oget_row fun h => by
      have h3 := hz h
      exact List.eq_nil_of_length_eq_zero (by omega)
    have htk : List.take i ((le v i).map bD) = (le v i).map bD := List.take_of_length_le (by omega)
    have hb8 : IntKind.u8.wrap (((v / 256 ^ i : Nat) : Int).tmod 256) = ((UInt8.ofNat (v / 256 ^ i % 256)).toNat : Int) := by
      have h3 : (UInt8.ofNat (v / 256 ^ i % 256)).toNat = v / 256 ^ i % 256 := by simp
      rw [h3, show ((v / 256 ^ i : Nat) : Int).tmod 256 = ((v / 256 ^ i % 256 : Nat) : Int) from rfl]
      simp [IntKind.wrap, IntKind.bits, IntKind.signed]
    have hq : IntKind.u64.wrap (((v / 256 ^ i : Nat) : Int).tdiv 256) = ((v / 256 ^ (i + 1) : Nat) : Int) := by
      rw [show ((v / 256 ^ i : Nat) : Int).tdiv 256 = ((v / 256 ^ i / 256 : Nat) : Int) from rfl, Nat.div_div_eq_div_mul, ← Nat.pow_succ]
      have : v / 256 ^ (i + 1) < 18446744073709551616 := Nat.lt_of_le_of_lt (Nat.div_le_self _ _) hv
      generalize v / 256 ^ (i + 1) = q at this ⊢
      simp [IntKind.wrap, IntKind.bits, IntKind.signed]
      omega
    have hrow : (le v i).map bD ++ [.v (.int .u8 ((UInt8.ofNat (v / 256 ^ i % 256)).toNat : Int))] = (le v (i + 1)).map bD := by rw [le_succ, List.map_append]; rfl
    have hlen2 : ((le v (i + 1)).map bD).length = i + 1 := by simp [le]
    repeat' (first | refine Goes.seq ?_ | refine Goes.skip ?_ | refine Goes.inBlock ?_ | refine Goes.block ?_ | refine Goes.exit rfl ?_ | (refine Goes.region [0, 1, 5, 6] fun K hK => ?_; simp (maxSteps := 4000000) only [go_sem, ↓reduceIte, reduceCtorEq, Nat.reduceEqDiff, Nat.reduceBEq, Int.reduceBEq, Int.reduceBNe, Nat.reduceLT, Nat.reduceLeDiff, Nat.reduceAdd, Nat.reduceSub, Nat.reduceMul, Int.reduceToNat, Int.reduceEq, Int.reduceLT, Int.reduceLE]; refine hK _ _ ?_; clear hK K))
    refine Goes.regionM [0, 1, 5, 6] [16] fun K hK => ?_; simp (maxSteps := 4000000) only [go_sem, ↓reduceIte, reduceCtorEq, Nat.reduceEqDiff, Nat.reduceBEq, Int.reduceBEq, Int.reduceBNe, Nat.reduceLT, Nat.reduceLeDiff, Nat.reduceAdd, Nat.reduceSub, Nat.reduceMul, Int.reduceToNat, Int.reduceEq, Int.reduceLT, Int.reduceLE, hg1, hlen1, htk, hb8, sdelo_cells hf, hrow, hlen2]
    refine ⟨by omega, ⟨by omega, fun y hy => by subst hy; exact ⟨rfl, rfl⟩, by omega, by omega⟩, fun o' hz' hf' => hK _ _ ?_⟩
    clear hK K
    repeat' (first | refine Goes.seq ?_ | refine Goes.skip ?_ | refine Goes.inBlock ?_ | refine Goes.block ?_ | refine Goes.exit rfl ?_ | (refine Goes.region [0, 1, 5, 6] fun K hK => ?_; simp (maxSteps := 4000000) only [go_sem, ↓reduceIte, reduceCtorEq, Nat.reduceEqDiff, Nat.reduceBEq, Int.reduceBEq, Int.reduceBNe, Nat.reduceLT, Nat.reduceLeDiff, Nat.reduceAdd, Nat.reduceSub, Nat.reduceMul, Int.reduceToNat, Int.reduceEq, Int.reduceLT, Int.reduceLE, hq]; refine hK _ _ ?_; clear hK K))
    refine Goes.rebase [0, 1, 5, 6] ?_
    simp only [go_sem, ↓reduceIte, reduceCtorEq, Nat.reduceEqDiff, Nat.reduceBEq, Int.reduceBEq, Int.reduceBNe, Nat.reduceLT, Nat.reduceLeDiff, Nat.reduceAdd, Nat.reduceSub, Nat.reduceMul, Int.reduceToNat, Int.reduceEq, Int.reduceLT, Int.reduceLE]
    rw [wrap_succ i (by omega)]
    refine ih (i + 1) _ _ ⟨by omega, o', hf', fun h => ?_, rfl, rfl⟩ (by omega)
    have := hz' h
    rw [this] at hlen2
    exact hlen2.symm
  · have hge : i = many := by have : ¬ i < many := by simpa using h
                              omega
    subst hge
    obtain ⟨b, rfl⟩ : ∃ b, o = some b := by
      cases o with
      | none => have := hz rfl; omega
      | some b => exact ⟨b, rfl⟩
    repeat' (first | refine Goes.seq ?_ | refine Goes.skip ?_ | refine Goes.inBlock ?_ | refine Goes.block ?_ | refine Goes.exit rfl ?_ | (refine Goes.region [0, 1, 5, 6] fun K hK => ?_; simp (maxSteps := 4000000) only [go_sem, ↓reduceIte, reduceCtorEq, Nat.reduceEqDiff, Nat.reduceBEq, Int.reduceBEq, Int.reduceBNe, Nat.reduceLT, Nat.reduceLeDiff, Nat.reduceAdd, Nat.reduceSub, Nat.reduceMul, Int.reduceToNat, Int.reduceEq, Int.reduceLT, Int.reduceLE]; refine hK _ _ ?_; clear hK K))
    refine Goes.ret hC Try.func22 (by simp [go_sem]) ?_
    simp only [go_sem, ↓reduceIte, reduceCtorEq, Nat.reduceEqDiff, Nat.reduceBEq, Int.reduceBEq, Int.reduceBNe, Nat.reduceLT, Nat.reduceLeDiff, Nat.reduceAdd, Nat.reduceSub, Nat.reduceMul, Int.reduceToNat, Int.reduceEq, Int.reduceLT, Int.reduceLE]
    exact ⟨b, hf b rfl, rfl, rfl⟩

theorem refText (s : ByteArray) (σ : Store) (hs : s.size < 65536) :
    ACalls Try.prog 21 [.v (.string s)] σ (fun e σ' => ∃ b, sget b σ = none ∧ e = .ret (.tup [.own (some b) 1 (2 + s.size), .v (.bool true)]) ∧ σ' = (b, .arr 1 ((le s.size 2 ++ s.data.toList).map bD)) :: σ) := by
  refine ACalls.of_body Try.func21 rfl Try.ntmps21 (by simp) fun C hC => ?_
  have hlong : decide ((s.size : Int) > 65535) = false := decide_eq_false (by omega)
  have hw : IntKind.u64.wrap (s.size : Int) = ((s.size : Nat) : Int) := by simp [IntKind.wrap, IntKind.bits, IntKind.signed]; omega
  refine Goes.seq ?_
  repeat' (first | refine Goes.seq ?_ | refine Goes.skip ?_ | refine Goes.inBlock ?_ | refine Goes.block ?_ | refine Goes.exit rfl ?_ | (refine Goes.region [0, 2, 3] fun K hK => ?_; simp (maxSteps := 4000000) only [go_sem, ↓reduceIte, reduceCtorEq, Nat.reduceEqDiff, Nat.reduceBEq, Int.reduceBEq, Int.reduceBNe, Nat.reduceLT, Nat.reduceLeDiff, Nat.reduceAdd, Nat.reduceSub, Nat.reduceMul, Int.reduceToNat, Int.reduceEq, Int.reduceLT, Int.reduceLE, hlong]; refine hK _ _ ?_; clear hK K))
  refine Goes.condF rfl ?_
  repeat' (first | refine Goes.seq ?_ | refine Goes.skip ?_ | refine Goes.inBlock ?_ | refine Goes.block ?_ | refine Goes.exit rfl ?_ | (refine Goes.region [0] fun K hK => ?_; simp (maxSteps := 4000000) only [go_sem, ↓reduceIte, reduceCtorEq, Nat.reduceEqDiff, Nat.reduceBEq, Int.reduceBEq, Int.reduceBNe, Nat.reduceLT, Nat.reduceLeDiff, Nat.reduceAdd, Nat.reduceSub, Nat.reduceMul, Int.reduceToNat, Int.reduceEq, Int.reduceLT, Int.reduceLE]; refine hK _ _ ?_; clear hK K))
  refine Goes.region [0] fun K hK => ?_; simp (maxSteps := 4000000) only [go_sem, ↓reduceIte, reduceCtorEq, Nat.reduceEqDiff, Nat.reduceBEq, Int.reduceBEq, Int.reduceBNe, Nat.reduceLT, Nat.reduceLeDiff, Nat.reduceAdd, Nat.reduceSub, Nat.reduceMul, Int.reduceToNat, Int.reduceEq, Int.reduceLT, Int.reduceLE, hw]
  refine ⟨_, Try.call22, (refNumber s.size 2 σ (by omega) (by omega) (by omega)).mono ?_⟩
  rintro e σ1 ⟨b, hb, rfl, rfl⟩
  have hlen1 : ((le s.size 2).map bD).length = 2 := by simp [le]
  have htk : List.take 2 ((le s.size 2).map bD) = (le s.size 2).map bD := List.take_of_length_le (by omega)
  simp only [go_sem, ↓reduceIte, reduceCtorEq, Nat.reduceEqDiff, Nat.reduceBEq, Int.reduceBEq, Int.reduceBNe, Nat.reduceLT, Nat.reduceLeDiff, Nat.reduceAdd, Nat.reduceSub, Nat.reduceMul, Int.reduceToNat, Int.reduceEq, Int.reduceLT, Int.reduceLE, hlen1, htk, hb]
  have hl3 : (List.map bD s.data.toList).length = s.size := by simp
  have hall : ((le s.size 2).map bD ++ s.data.toList.map bD).length = 2 + s.size := by rw [List.length_append, hlen1, hl3]
  refine ⟨⟨fun y hy => ?_, by omega, by omega⟩, fun o2 hz2 hf2 => ?_⟩
  · obtain ⟨c, _, rfl⟩ := List.mem_map.1 hy; exact ⟨rfl, rfl⟩
  obtain ⟨b2, rfl⟩ : ∃ b, o2 = some b := by
    cases o2 with
    | none => have := hz2 rfl; rw [this] at hall; simp at hall; omega
    | some b => exact ⟨b, rfl⟩
  refine hK _ _ ?_
  refine Goes.ret hC Try.func21 (by simp [go_sem]) ?_
  simp only [go_sem, ↓reduceIte, reduceCtorEq, Nat.reduceEqDiff, Nat.reduceBEq, Int.reduceBEq, Int.reduceBNe, Nat.reduceLT, Nat.reduceLeDiff, Nat.reduceAdd, Nat.reduceSub, Nat.reduceMul, Int.reduceToNat, Int.reduceEq, Int.reduceLT, Int.reduceLE, hall]
  rw [List.map_append]
  exact ⟨b2, hf2 b2 rfl, rfl, rfl⟩
end Go.Ab.S21
