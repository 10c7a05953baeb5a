/- Layer 21: what is read of bytes, in plain Lean; pack.Reader's take. -/
import Derived.Test.YtcpcfglccnmmnaaS21G
set_option linter.unusedSimpArgs false
set_option linter.unusedVariables false
set_option linter.constructorNameAsVariable false
namespace Go.Ab.S21
open Go Go.Proofs

abbrev RS := List UInt8 × Bool
def val (l : List UInt8) : Nat := l.foldr (fun c n => c.toNat + 256 * n) 0
def takeS (s : RS) (n : Nat) : List UInt8 × RS := if s.2 = true ∨ s.1.length < n then ([], ([], true)) else (s.1.take n, (s.1.drop n, false))
def numS (s : RS) (k : Nat) : Nat × RS := (val (takeS s k).1, (takeS s k).2)
def textS (s : RS) : List UInt8 × RS := takeS (numS s 2).2 (numS s 2).1

/-- The row of a pack.Reader. -/
def rst (r : Nat) (s : RS) : Store := [(r, .arr 2 [.agg [.slc (s.1.map bD), .v (.bool s.2)]])]

theorem takeS_len (s : RS) (n : Nat) : (takeS s n).2.1.length ≤ s.1.length ∧ (takeS s n).1.length ≤ n := by
  unfold takeS
  split
  · simp
  · simp; omega

theorem take_calls (r : Nat) (s : RS) (n : Nat) (hs : s.1.length < 2 ^ 40) (hn : n < 2 ^ 40) :
    ACalls Try.prog 50 [.ptr r 2 0 0, .v (.int .i64 n)] (rst r s) (fun e σ' => e = .ret (.slc ((takeS s n).1.map bD)) ∧ σ' = rst r (takeS s n).2) := by
  obtain ⟨bs, bad⟩ := s
  have hlb : (bs.map bD).length = bs.length := List.length_map ..
  have hr : sget r (rst r (bs, bad)) = some (.arr 2 [.agg [.slc (bs.map bD), .v (.bool bad)]]) := sget_self ..
  refine ACalls.ret_le (R := fun e σ' => (e = .ret (.slc ((takeS (bs, bad) n).1.map bD)) ∧ σ' = rst r (takeS (bs, bad) n).2) ∨ ((bad = true ∨ bs.length < n) ∧ e = .ret (.v (.slice none 0 0)) ∧ σ' = rst r ([], true))) ?_ fun e σ' h => ?_
  rotate_left
  · rcases h with h | ⟨hc, rfl, rfl⟩
    · exact .inl h
    · refine .inr ⟨_, _, rfl, DLe.nil_slc, ?_⟩
      unfold takeS
      rw [if_pos hc]
      exact ⟨rfl, rfl⟩
  refine ACalls.of_body Try.func50 rfl Try.ntmps50 (by simp) fun C hC => ?_
  refine Goes.seq ?_
  refine Goes.region [0, 1] fun K hK => ?_; simp (maxSteps := 4000000) only [go_sem, ↓reduceIte, reduceCtorEq, Nat.reduceEqDiff, Nat.reduceBEq, Int.reduceBEq, Int.reduceBNe, Nat.reduceLT, Nat.reduceLeDiff, Nat.reduceAdd, Nat.reduceSub, Nat.reduceMul, Int.reduceToNat, Int.reduceEq, Int.reduceLT, Int.reduceLE]
  refine hK _ _ ?_; clear hK K
  have bad' : bad = true ∨ bs.length < n → ∀ k' env σ, eget 0 env = .ptr r 2 0 0 → σ = rst r (bs, bad) → Goes C (.code (codeAt (bodyAt Try.f50 [1, 0]) [1, 0]) :: k') env σ := fun hc k' env σ e0 hσ => by
    subst hσ
    refine Goes.seq ?_
    refine Goes.seq ?_
    refine Goes.region [0] fun K hK => ?_; simp (maxSteps := 4000000) only [go_sem, ↓reduceIte, reduceCtorEq, Nat.reduceEqDiff, Nat.reduceBEq, Int.reduceBEq, Int.reduceBNe, Nat.reduceLT, Nat.reduceLeDiff, Nat.reduceAdd, Nat.reduceSub, Nat.reduceMul, Int.reduceToNat, Int.reduceEq, Int.reduceLT, Int.reduceLE, e0]
    refine hK _ _ (Goes.condT rfl ?_); clear hK K
    refine Goes.region [0] fun K hK => ?_; simp (maxSteps := 4000000) only [go_sem, ↓reduceIte, reduceCtorEq, Nat.reduceEqDiff, Nat.reduceBEq, Int.reduceBEq, Int.reduceBNe, Nat.reduceLT, Nat.reduceLeDiff, Nat.reduceAdd, Nat.reduceSub, Nat.reduceMul, Int.reduceToNat, Int.reduceEq, Int.reduceLT, Int.reduceLE, rst]
    refine hK _ _ ?_; clear hK K
    refine Goes.le (σ' := [(r, .arr 2 [.agg [.v (.slice none 0 0), .v (.bool true)]])]) (ELe.refl _) (SLe.refl _) ?_
    refine Goes.row_le (ys := [.agg [.slc [], .v (.bool true)]]) (fun w S vs h => ?_) (fun y hy => by simp at hy; rw [hy]; rfl) ?_
    · obtain ⟨x, xs, rfl, hx, ht⟩ := h.cons_inv
      exact .cons (DLe.nil_slc _ _ _ hx) ht
    refine Goes.seq ?_
    refine Goes.region [0] fun K hK => ?_; simp (maxSteps := 4000000) only [go_sem, ↓reduceIte, reduceCtorEq, Nat.reduceEqDiff, Nat.reduceBEq, Int.reduceBEq, Int.reduceBNe, Nat.reduceLT, Nat.reduceLeDiff, Nat.reduceAdd, Nat.reduceSub, Nat.reduceMul, Int.reduceToNat, Int.reduceEq, Int.reduceLT, Int.reduceLE]
    refine hK _ _ ?_; clear hK K
    refine Goes.ret hC Try.func50 (by simp [go_sem]) ?_
    simp only [go_sem, ↓reduceIte, reduceCtorEq, Nat.reduceEqDiff, Nat.reduceBEq, Int.reduceBEq, Int.reduceBNe, Nat.reduceLT, Nat.reduceLeDiff, Nat.reduceAdd, Nat.reduceSub, Nat.reduceMul, Int.reduceToNat, Int.reduceEq, Int.reduceLT, Int.reduceLE]
    exact .inr ⟨hc, rfl⟩
  refine Goes.seq (Goes.join (fun env σ => eget 0 env = .ptr r 2 0 0 ∧ eget 1 env = .v (.int .i64 n) ∧ σ = rst r (bs, bad) ∧ bad = false ∧ n ≤ bs.length) ?_ ?_)
  · intro k' hk'
    refine Goes.seq ?_
    refine Goes.region [0, 1, 4] fun K hK => ?_; simp (maxSteps := 4000000) only [go_sem, ↓reduceIte, reduceCtorEq, Nat.reduceEqDiff, Nat.reduceBEq, Int.reduceBEq, Int.reduceBNe, Nat.reduceLT, Nat.reduceLeDiff, Nat.reduceAdd, Nat.reduceSub, Nat.reduceMul, Int.reduceToNat, Int.reduceEq, Int.reduceLT, Int.reduceLE, hr]
    cases bad with
    | true =>
      simp only [go_sem, ↓reduceIte, reduceCtorEq, Nat.reduceEqDiff, Nat.reduceBEq, Int.reduceBEq, Int.reduceBNe, Nat.reduceLT, Nat.reduceLeDiff, Nat.reduceAdd, Nat.reduceSub, Nat.reduceMul, Int.reduceToNat, Int.reduceEq, Int.reduceLT, Int.reduceLE]
      refine hK _ _ (Goes.condT rfl ?_); clear hK K
      exact bad' (.inl rfl) _ _ _ rfl rfl
    | false =>
      simp only [go_sem, ↓reduceIte, reduceCtorEq, Nat.reduceEqDiff, Nat.reduceBEq, Int.reduceBEq, Int.reduceBNe, Nat.reduceLT, Nat.reduceLeDiff, Nat.reduceAdd, Nat.reduceSub, Nat.reduceMul, Int.reduceToNat, Int.reduceEq, Int.reduceLT, Int.reduceLE]
      refine hK _ _ (Goes.cond rfl (fun h => ?_) (fun h => ?_)); all_goals clear hK K
      · exact bad' (.inr (by simp at h; omega)) _ _ _ rfl rfl
      · exact Goes.skip (hk' _ _ ⟨rfl, rfl, rfl, rfl, by simp at h; omega⟩)
  rintro env σ ⟨e0, e1, rfl, rfl, hle⟩
  have ht : takeS (bs, false) n = (bs.take n, (bs.drop n, false)) := if_neg (by simp; omega)
  rw [ht] at hC
  have htt : List.take (bs.map bD).length (bs.map bD) = bs.map bD := List.take_length
  have h1 : (0 : Int) ≤ (n : Int) := by omega
  have h2 : (n : Int) ≤ ((bs.map bD).length : Int) := by omega
  have h3 : ∀ x ∈ bs.map bD, x.cells.length = 1 := fun x hx => (plain_bD bs x hx).1
  refine Goes.seq ?_
  refine Goes.region [0, 1] fun K hK => ?_; simp (maxSteps := 4000000) only [go_sem, ↓reduceIte, reduceCtorEq, Nat.reduceEqDiff, Nat.reduceBEq, Int.reduceBEq, Int.reduceBNe, Nat.reduceLT, Nat.reduceLeDiff, Nat.reduceAdd, Nat.reduceSub, Nat.reduceMul, Int.reduceToNat, Int.reduceEq, Int.reduceLT, Int.reduceLE, e0, e1, hr, h1, h2]
  refine ⟨h3, hK _ _ ?_⟩; clear hK K
  refine Goes.seq ?_
  refine Goes.region [0, 1, 5] fun K hK => ?_; simp (maxSteps := 4000000) only [go_sem, ↓reduceIte, reduceCtorEq, Nat.reduceEqDiff, Nat.reduceBEq, Int.reduceBEq, Int.reduceBNe, Nat.reduceLT, Nat.reduceLeDiff, Nat.reduceAdd, Nat.reduceSub, Nat.reduceMul, Int.reduceToNat, Int.reduceEq, Int.reduceLT, Int.reduceLE, hr, h1, h2, htt]
  refine ⟨⟨by omega, h3⟩, hK _ _ ?_⟩; clear hK K
  have he : sset r (AObj.arr 2 [D.agg [D.slc (List.drop n (List.map bD bs)), D.v (Value.bool false)]]) (rst r (bs, false)) = rst r (bs.drop n, false) := by
    simp [rst, sset, List.map_drop]
  rw [he]
  refine Goes.seq ?_
  refine Goes.region [5] fun K hK => ?_; simp (maxSteps := 4000000) only [go_sem, ↓reduceIte, reduceCtorEq, Nat.reduceEqDiff, Nat.reduceBEq, Int.reduceBEq, Int.reduceBNe, Nat.reduceLT, Nat.reduceLeDiff, Nat.reduceAdd, Nat.reduceSub, Nat.reduceMul, Int.reduceToNat, Int.reduceEq, Int.reduceLT, Int.reduceLE]
  refine hK _ _ ?_; clear hK K
  refine Goes.ret hC Try.func50 (by simp [go_sem]) ?_
  simp only [go_sem, ↓reduceIte, reduceCtorEq, Nat.reduceEqDiff, Nat.reduceBEq, Int.reduceBEq, Int.reduceBNe, Nat.reduceLT, Nat.reduceLeDiff, Nat.reduceAdd, Nat.reduceSub, Nat.reduceMul, Int.reduceToNat, Int.reduceEq, Int.reduceLT, Int.reduceLE]
  exact .inl (by rw [List.map_take])
end Go.Ab.S21

/- Layer 21: numbers and texts that are read. -/
namespace Go.Ab.S21
open Go Go.Proofs

theorem val_snoc (l : List UInt8) (c : UInt8) : val (l ++ [c]) = val l + c.toNat * 256 ^ l.length := by
  induction l with
  | nil => simp [val]
  | cons x l ih =>
    show x.toNat + 256 * val (l ++ [c]) = (x.toNat + 256 * val l) + c.toNat * 256 ^ (l.length + 1)
    rw [ih, Nat.pow_succ, Nat.mul_add, ← Nat.add_assoc]
    congr 1
    rw [Nat.mul_left_comm, Nat.mul_comm 256 (256 ^ _)]
theorem val_lt (l : List UInt8) : val l < 256 ^ l.length := by
  induction l with
  | nil => simp [val]
  | cons x l ih =>
    show x.toNat + 256 * val l < 256 ^ (l.length + 1)
    have := x.toNat_lt
    rw [Nat.pow_succ]; omega
theorem or_put (a c i : Nat) (h : a < 256 ^ i) : a ||| c * 256 ^ i = a + c * 256 ^ i := by
  have e : (256 : Nat) ^ i = 2 ^ (8 * i) := by rw [Nat.pow_mul]
  rw [e] at h ⊢
  rw [← Nat.shiftLeft_eq, Nat.or_comm, ← Nat.shiftLeft_add_eq_or_of_lt h, Nat.add_comm]

theorem u32_nat (v : Nat) (h : v < 4294967296) : IntKind.u32.wrap (v : Int) = v := by simp [IntKind.wrap, IntKind.bits, IntKind.signed]; omega
theorem u16_nat (v : Nat) (h : v < 65536) : IntKind.u16.wrap (v : Int) = v := by simp [IntKind.wrap, IntKind.bits, IntKind.signed]; omega

theorem bin_or (P : Program) (T : TypeId) (x y : Operand) (k : IntKind) (hk : k = .u16 ∨ k = .u32 ∨ k = .u64) (a b : Nat) (ha : a < 2 ^ k.bits) (hb : b < 2 ^ k.bits) : aBin P .or T x y (.v (.int k a)) (.v (.int k b)) = .val True (.v (.int k ((a ||| b : Nat) : Int))) := by
  have h1 : (BitVec.ofInt k.bits (a : Int)).toNat = a := by simp [Nat.mod_eq_of_lt ha]
  have h2 : (BitVec.ofInt k.bits (b : Int)).toNat = b := by simp [Nat.mod_eq_of_lt hb]
  have h3 : k.wrap (((BitVec.ofInt k.bits (a : Int) ||| BitVec.ofInt k.bits (b : Int)).toNat : Nat) : Int) = ((a ||| b : Nat) : Int) := by
    rw [BitVec.toNat_or, h1, h2]
    have hlt := Nat.or_lt_two_pow ha hb
    rcases hk with rfl | rfl | rfl <;> simp [IntKind.wrap, IntKind.bits, IntKind.signed] at hlt ⊢ <;> omega
  simp only [aBin, ifcNil, aBin0, toV, scal, eqGuard, binOp, Op.intBits, h3]
  simp [okV, ofV, purely_pure]

theorem get32_calls (r : Nat) (s : RS) (m : Nat) (hm : m ≤ 4) (hs : s.1.length < 2 ^ 40) : ACalls Try.prog 47 [.ptr r 2 0 0, .v (.int .i64 m)] (rst r s) (fun e σ' => e = .ret (.v (.int .u32 (numS s m).1)) ∧ σ' = rst r (numS s m).2) := by
  refine ACalls.of_body Try.func47 rfl Try.ntmps47 (by simp) fun C hC => ?_
  have h0 : IntKind.u32.wrap 0 = 0 := rfl
  refine Goes.seq ?_
  refine Goes.region [0, 1] fun K hK => ?_; simp (maxSteps := 4000000) only [go_sem, ↓reduceIte, reduceCtorEq, Nat.reduceEqDiff, Nat.reduceBEq, Int.reduceBEq, Int.reduceBNe, Nat.reduceLT, Nat.reduceLeDiff, Nat.reduceAdd, Nat.reduceSub, Nat.reduceMul, Int.reduceToNat, Int.reduceEq, Int.reduceLT, Int.reduceLE]
  refine hK _ _ ?_; clear hK K
  refine Goes.seq ?_
  refine Goes.region [0, 1] fun K hK => ?_; simp (maxSteps := 4000000) only [go_sem, ↓reduceIte, reduceCtorEq, Nat.reduceEqDiff, Nat.reduceBEq, Int.reduceBEq, Int.reduceBNe, Nat.reduceLT, Nat.reduceLeDiff, Nat.reduceAdd, Nat.reduceSub, Nat.reduceMul, Int.reduceToNat, Int.reduceEq, Int.reduceLT, Int.reduceLE, h0]
  refine hK _ _ ?_; clear hK K
  refine Goes.seq ?_
  refine Goes.seq ?_
  refine Goes.region [0, 1, 5] fun K hK => ?_; simp (maxSteps := 4000000) only [go_sem, ↓reduceIte, reduceCtorEq, Nat.reduceEqDiff, Nat.reduceBEq, Int.reduceBEq, Int.reduceBNe, Nat.reduceLT, Nat.reduceLeDiff, Nat.reduceAdd, Nat.reduceSub, Nat.reduceMul, Int.reduceToNat, Int.reduceEq, Int.reduceLT, Int.reduceLE]
  refine ⟨_, Try.call50, (take_calls r s m hs (by omega)).mono ?_⟩
  rintro e σ1 ⟨rfl, rfl⟩
  have hlm := (takeS_len s m).2
  generalize hl : (takeS s m).1 = l at hlm ⊢
  generalize hσ : rst r (takeS s m).2 = σ
  have hlen : (l.map bD).length = l.length := List.length_map ..
  simp only [go_sem, ↓reduceIte, reduceCtorEq, Nat.reduceEqDiff, Nat.reduceBEq, Int.reduceBEq, Int.reduceBNe, Nat.reduceLT, Nat.reduceLeDiff, Nat.reduceAdd, Nat.reduceSub, Nat.reduceMul, Int.reduceToNat, Int.reduceEq, Int.reduceLT, Int.reduceLE]
  refine hK _ _ ?_; clear hK K
  refine Goes.rebase [5, 11, 12, 13] ?_
  simp only [go_sem, ↓reduceIte, reduceCtorEq, Nat.reduceEqDiff, Nat.reduceBEq, Int.reduceBEq, Int.reduceBNe, Nat.reduceLT, Nat.reduceLeDiff, Nat.reduceAdd, Nat.reduceSub, Nat.reduceMul, Int.reduceToNat, Int.reduceEq, Int.reduceLT, Int.reduceLE]
  refine Goes.block ?_
  refine Goes.while (fun (i : Nat) env' σ' => i ≤ l.length ∧ env' = [(5, .v (.int .u32 ((val (l.take i) : Nat) : Int))), (11, .slc (l.map bD)), (12, .v (.int .i64 ((l.map bD).length : Int))), (13, .v (.int .i64 (i : Int)))] ∧ σ' = σ) (fun i => l.length - i) 0 ⟨by omega, by simp [val], rfl⟩ ?_
  rintro i env' σ' ⟨hi, rfl, rfl⟩ ih
  repeat' (first | refine Goes.seq ?_ | refine Goes.skip ?_ | refine Goes.inBlock ?_ | refine Goes.block ?_ | refine Goes.exit rfl ?_ | (refine Goes.region [5, 11, 12, 13] fun K hK => ?_; simp (maxSteps := 4000000) only [go_sem, ↓reduceIte, reduceCtorEq, Nat.reduceEqDiff, Nat.reduceBEq, Int.reduceBEq, Int.reduceBNe, Nat.reduceLT, Nat.reduceLeDiff, Nat.reduceAdd, Nat.reduceSub, Nat.reduceMul, Int.reduceToNat, Int.reduceEq, Int.reduceLT, Int.reduceLE]; refine hK _ _ ?_; clear hK K))
  refine Goes.cond rfl (fun h => ?_) (fun h => ?_)
  · have hlt : i < l.length := by simpa [hlen] using h
    have hg := getD_map_lt bD l i hlt
    rw [bD] at hg
    have hi0 : (0 : Int) ≤ (i : Int) := by omega
    have hi1 : (i : Int) < ((l.map bD).length : Int) := by omega
    have hc := l[i].toNat_lt
    have hvl := val_lt (l.take i)
    have htl : (l.take i).length = i := by simp; omega
    rw [htl] at hvl
    have hpow : 256 ^ i * 256 ≤ 256 ^ 4 := by rw [← Nat.pow_succ]; exact Nat.pow_le_pow_right (by omega) (by omega)
    have hmul : l[i].toNat * 256 ^ i ≤ 255 * 256 ^ i := Nat.mul_le_mul_right _ (by omega)
    have hw1 : IntKind.u32.wrap (l[i].toNat : Int) = ((l[i].toNat : Nat) : Int) := by simp [IntKind.wrap, IntKind.bits, IntKind.signed]; omega
    have hw2 : IntKind.i64.wrap (8 * (i : Int)) = ((8 * i : Nat) : Int) := by rw [wrap_in _ (by omega) (by omega)]; push_cast; rfl
    have hmin : min (8 * i) 32 = 8 * i := by omega
    have hw3 : IntKind.u32.wrap ((l[i].toNat : Int) * 2 ^ (min (8 * i) 32)) = ((l[i].toNat * 256 ^ i : Nat) : Int) := by
      rw [hmin, show (2 : Int) ^ (8 * i) = ((256 ^ i : Nat) : Int) by rw [Int.pow_mul, show ((2 : Int) ^ 8) = ((256 : Nat) : Int) from rfl]; exact (Int.natCast_pow 256 i).symm, ← Int.natCast_mul]
      exact u32_nat _ (by omega)
    have hor : ∀ T x y, aBin Try.prog .or T x y (.v (.int .u32 ((val (l.take i) : Nat) : Int))) (.v (.int .u32 ((l[i].toNat * 256 ^ i : Nat) : Int))) = .val True (.v (.int .u32 ((val (l.take (i + 1)) : Nat) : Int))) := fun T x y => by
      rw [bin_or _ _ _ _ _ (by simp) _ _ (by show val _ < 2 ^ 32; omega) (by show _ * _ < 2 ^ 32; omega), or_put _ _ _ hvl, List.take_succ_eq_append_getElem hlt, val_snoc, htl]
    refine Goes.skip ?_
    refine Goes.seq ?_
    refine Goes.block ?_
    refine Goes.seq ?_
    refine Goes.region [5, 11, 12, 13] fun K hK => ?_; simp (maxSteps := 4000000) only [go_sem, ↓reduceIte, reduceCtorEq, Nat.reduceEqDiff, Nat.reduceBEq, Int.reduceBEq, Int.reduceBNe, Nat.reduceLT, Nat.reduceLeDiff, Nat.reduceAdd, Nat.reduceSub, Nat.reduceMul, Int.reduceToNat, Int.reduceEq, Int.reduceLT, Int.reduceLE, hg, hi0, hi1]
    refine hK _ _ ?_; clear hK K
    refine Goes.region [5, 6, 7, 11, 12, 13] fun K hK => ?_; simp (maxSteps := 4000000) only [go_sem, ↓reduceIte, reduceCtorEq, Nat.reduceEqDiff, Nat.reduceBEq, Int.reduceBEq, Int.reduceBNe, Nat.reduceLT, Nat.reduceLeDiff, Nat.reduceAdd, Nat.reduceSub, Nat.reduceMul, Int.reduceToNat, Int.reduceEq, Int.reduceLT, Int.reduceLE, hw1, hw2, hw3, hor]
    refine hK _ _ ?_; clear hK K
    repeat' (first | refine Goes.seq ?_ | refine Goes.skip ?_ | refine Goes.inBlock ?_ | refine Goes.block ?_ | refine Goes.exit rfl ?_ | (refine Goes.region [5, 11, 12, 13] fun K hK => ?_; simp (maxSteps := 4000000) only [go_sem, ↓reduceIte, reduceCtorEq, Nat.reduceEqDiff, Nat.reduceBEq, Int.reduceBEq, Int.reduceBNe, Nat.reduceLT, Nat.reduceLeDiff, Nat.reduceAdd, Nat.reduceSub, Nat.reduceMul, Int.reduceToNat, Int.reduceEq, Int.reduceLT, Int.reduceLE]; refine hK _ _ ?_; clear hK K))
    refine Goes.rebase [5, 11, 12, 13] ?_
    simp only [go_sem, ↓reduceIte, reduceCtorEq, Nat.reduceEqDiff, Nat.reduceBEq, Int.reduceBEq, Int.reduceBNe, Nat.reduceLT, Nat.reduceLeDiff, Nat.reduceAdd, Nat.reduceSub, Nat.reduceMul, Int.reduceToNat, Int.reduceEq, Int.reduceLT, Int.reduceLE]
    rw [wrap_succ i (by omega)]
    exact ih (i + 1) _ _ ⟨by omega, rfl, rfl⟩ (by omega)
  · have hge : ¬ i < l.length := by simpa [hlen] using h
    have : i = l.length := by omega
    subst this
    rw [List.take_length]
    repeat' (first | refine Goes.seq ?_ | refine Goes.skip ?_ | refine Goes.inBlock ?_ | refine Goes.block ?_ | refine Goes.exit rfl ?_ | (refine Goes.region [4, 5] fun K hK => ?_; simp (maxSteps := 4000000) only [go_sem, ↓reduceIte, reduceCtorEq, Nat.reduceEqDiff, Nat.reduceBEq, Int.reduceBEq, Int.reduceBNe, Nat.reduceLT, Nat.reduceLeDiff, Nat.reduceAdd, Nat.reduceSub, Nat.reduceMul, Int.reduceToNat, Int.reduceEq, Int.reduceLT, Int.reduceLE]; refine hK _ _ ?_; clear hK K))
    refine Goes.ret hC Try.func47 (by simp [go_sem]) ?_
    simp only [go_sem, ↓reduceIte, reduceCtorEq, Nat.reduceEqDiff, Nat.reduceBEq, Int.reduceBEq, Int.reduceBNe, Nat.reduceLT, Nat.reduceLeDiff, Nat.reduceAdd, Nat.reduceSub, Nat.reduceMul, Int.reduceToNat, Int.reduceEq, Int.reduceLT, Int.reduceLE]
    unfold numS
    rw [hl, hσ]
    exact ⟨rfl, rfl⟩

theorem get16_calls (r : Nat) (s : RS) (m : Nat) (hm : m ≤ 2) (hs : s.1.length < 2 ^ 40) : ACalls Try.prog 51 [.ptr r 2 0 0, .v (.int .i64 m)] (rst r s) (fun e σ' => e = .ret (.v (.int .u16 (numS s m).1)) ∧ σ' = rst r (numS s m).2) := by
  refine ACalls.of_body Try.func51 rfl Try.ntmps51 (by simp) fun C hC => ?_
  have h0 : IntKind.u16.wrap 0 = 0 := rfl
  refine Goes.seq ?_
  refine Goes.region [0, 1] fun K hK => ?_; simp (maxSteps := 4000000) only [go_sem, ↓reduceIte, reduceCtorEq, Nat.reduceEqDiff, Nat.reduceBEq, Int.reduceBEq, Int.reduceBNe, Nat.reduceLT, Nat.reduceLeDiff, Nat.reduceAdd, Nat.reduceSub, Nat.reduceMul, Int.reduceToNat, Int.reduceEq, Int.reduceLT, Int.reduceLE]
  refine hK _ _ ?_; clear hK K
  refine Goes.seq ?_
  refine Goes.region [0, 1] fun K hK => ?_; simp (maxSteps := 4000000) only [go_sem, ↓reduceIte, reduceCtorEq, Nat.reduceEqDiff, Nat.reduceBEq, Int.reduceBEq, Int.reduceBNe, Nat.reduceLT, Nat.reduceLeDiff, Nat.reduceAdd, Nat.reduceSub, Nat.reduceMul, Int.reduceToNat, Int.reduceEq, Int.reduceLT, Int.reduceLE, h0]
  refine hK _ _ ?_; clear hK K
  refine Goes.seq ?_
  refine Goes.seq ?_
  refine Goes.region [0, 1, 5] fun K hK => ?_; simp (maxSteps := 4000000) only [go_sem, ↓reduceIte, reduceCtorEq, Nat.reduceEqDiff, Nat.reduceBEq, Int.reduceBEq, Int.reduceBNe, Nat.reduceLT, Nat.reduceLeDiff, Nat.reduceAdd, Nat.reduceSub, Nat.reduceMul, Int.reduceToNat, Int.reduceEq, Int.reduceLT, Int.reduceLE]
  refine ⟨_, Try.call50, (take_calls r s m hs (by omega)).mono ?_⟩
  rintro e σ1 ⟨rfl, rfl⟩
  have hlm := (takeS_len s m).2
  generalize hl : (takeS s m).1 = l at hlm ⊢
  generalize hσ : rst r (takeS s m).2 = σ
  have hlen : (l.map bD).length = l.length := List.length_map ..
  simp only [go_sem, ↓reduceIte, reduceCtorEq, Nat.reduceEqDiff, Nat.reduceBEq, Int.reduceBEq, Int.reduceBNe, Nat.reduceLT, Nat.reduceLeDiff, Nat.reduceAdd, Nat.reduceSub, Nat.reduceMul, Int.reduceToNat, Int.reduceEq, Int.reduceLT, Int.reduceLE]
  refine hK _ _ ?_; clear hK K
  refine Goes.rebase [5, 11, 12, 13] ?_
  simp only [go_sem, ↓reduceIte, reduceCtorEq, Nat.reduceEqDiff, Nat.reduceBEq, Int.reduceBEq, Int.reduceBNe, Nat.reduceLT, Nat.reduceLeDiff, Nat.reduceAdd, Nat.reduceSub, Nat.reduceMul, Int.reduceToNat, Int.reduceEq, Int.reduceLT, Int.reduceLE]
  refine Goes.block ?_
  refine Goes.while (fun (i : Nat) env' σ' => i ≤ l.length ∧ env' = [(5, .v (.int .u16 ((val (l.take i) : Nat) : Int))), (11, .slc (l.map bD)), (12, .v (.int .i64 ((l.map bD).length : Int))), (13, .v (.int .i64 (i : Int)))] ∧ σ' = σ) (fun i => l.length - i) 0 ⟨by omega, by simp [val], rfl⟩ ?_
  rintro i env' σ' ⟨hi, rfl, rfl⟩ ih
  repeat' (first | refine Goes.seq ?_ | refine Goes.skip ?_ | refine Goes.inBlock ?_ | refine Goes.block ?_ | refine Goes.exit rfl ?_ | (refine Goes.region [5, 11, 12, 13] fun K hK => ?_; simp (maxSteps := 4000000) only [go_sem, ↓reduceIte, reduceCtorEq, Nat.reduceEqDiff, Nat.reduceBEq, Int.reduceBEq, Int.reduceBNe, Nat.reduceLT, Nat.reduceLeDiff, Nat.reduceAdd, Nat.reduceSub, Nat.reduceMul, Int.reduceToNat, Int.reduceEq, Int.reduceLT, Int.reduceLE]; refine hK _ _ ?_; clear hK K))
  refine Goes.cond rfl (fun h => ?_) (fun h => ?_)
  · have hlt : i < l.length := by simpa [hlen] using h
    have hg := getD_map_lt bD l i hlt
    rw [bD] at hg
    have hi0 : (0 : Int) ≤ (i : Int) := by omega
    have hi1 : (i : Int) < ((l.map bD).length : Int) := by omega
    have hc := l[i].toNat_lt
    have hvl := val_lt (l.take i)
    have htl : (l.take i).length = i := by simp; omega
    rw [htl] at hvl
    have hpow : 256 ^ i * 256 ≤ 256 ^ 2 := by rw [← Nat.pow_succ]; exact Nat.pow_le_pow_right (by omega) (by omega)
    have hmul : l[i].toNat * 256 ^ i ≤ 255 * 256 ^ i := Nat.mul_le_mul_right _ (by omega)
    have hw1 : IntKind.u16.wrap (l[i].toNat : Int) = ((l[i].toNat : Nat) : Int) := by simp [IntKind.wrap, IntKind.bits, IntKind.signed]; omega
    have hw2 : IntKind.i64.wrap (8 * (i : Int)) = ((8 * i : Nat) : Int) := by rw [wrap_in _ (by omega) (by omega)]; push_cast; rfl
    have hmin : min (8 * i) 16 = 8 * i := by omega
    have hw3 : IntKind.u16.wrap ((l[i].toNat : Int) * 2 ^ (min (8 * i) 16)) = ((l[i].toNat * 256 ^ i : Nat) : Int) := by
      rw [hmin, show (2 : Int) ^ (8 * i) = ((256 ^ i : Nat) : Int) by rw [Int.pow_mul, show ((2 : Int) ^ 8) = ((256 : Nat) : Int) from rfl]; exact (Int.natCast_pow 256 i).symm, ← Int.natCast_mul]
      exact u16_nat _ (by omega)
    have hor : ∀ T x y, aBin Try.prog .or T x y (.v (.int .u16 ((val (l.take i) : Nat) : Int))) (.v (.int .u16 ((l[i].toNat * 256 ^ i : Nat) : Int))) = .val True (.v (.int .u16 ((val (l.take (i + 1)) : Nat) : Int))) := fun T x y => by
      rw [bin_or _ _ _ _ _ (by simp) _ _ (by show val _ < 2 ^ 16; omega) (by show _ * _ < 2 ^ 16; omega), or_put _ _ _ hvl, List.take_succ_eq_append_getElem hlt, val_snoc, htl]
    refine Goes.skip ?_
    refine Goes.seq ?_
    refine Goes.block ?_
    refine Goes.seq ?_
    refine Goes.region [5, 11, 12, 13] fun K hK => ?_; simp (maxSteps := 4000000) only [go_sem, ↓reduceIte, reduceCtorEq, Nat.reduceEqDiff, Nat.reduceBEq, Int.reduceBEq, Int.reduceBNe, Nat.reduceLT, Nat.reduceLeDiff, Nat.reduceAdd, Nat.reduceSub, Nat.reduceMul, Int.reduceToNat, Int.reduceEq, Int.reduceLT, Int.reduceLE, hg, hi0, hi1]
    refine hK _ _ ?_; clear hK K
    refine Goes.region [5, 6, 7, 11, 12, 13] fun K hK => ?_; simp (maxSteps := 4000000) only [go_sem, ↓reduceIte, reduceCtorEq, Nat.reduceEqDiff, Nat.reduceBEq, Int.reduceBEq, Int.reduceBNe, Nat.reduceLT, Nat.reduceLeDiff, Nat.reduceAdd, Nat.reduceSub, Nat.reduceMul, Int.reduceToNat, Int.reduceEq, Int.reduceLT, Int.reduceLE, hw1, hw2, hw3, hor]
    refine hK _ _ ?_; clear hK K
    repeat' (first | refine Goes.seq ?_ | refine Goes.skip ?_ | refine Goes.inBlock ?_ | refine Goes.block ?_ | refine Goes.exit rfl ?_ | (refine Goes.region [5, 11, 12, 13] fun K hK => ?_; simp (maxSteps := 4000000) only [go_sem, ↓reduceIte, reduceCtorEq, Nat.reduceEqDiff, Nat.reduceBEq, Int.reduceBEq, Int.reduceBNe, Nat.reduceLT, Nat.reduceLeDiff, Nat.reduceAdd, Nat.reduceSub, Nat.reduceMul, Int.reduceToNat, Int.reduceEq, Int.reduceLT, Int.reduceLE]; refine hK _ _ ?_; clear hK K))
    refine Goes.rebase [5, 11, 12, 13] ?_
    simp only [go_sem, ↓reduceIte, reduceCtorEq, Nat.reduceEqDiff, Nat.reduceBEq, Int.reduceBEq, Int.reduceBNe, Nat.reduceLT, Nat.reduceLeDiff, Nat.reduceAdd, Nat.reduceSub, Nat.reduceMul, Int.reduceToNat, Int.reduceEq, Int.reduceLT, Int.reduceLE]
    rw [wrap_succ i (by omega)]
    exact ih (i + 1) _ _ ⟨by omega, rfl, rfl⟩ (by omega)
  · have hge : ¬ i < l.length := by simpa [hlen] using h
    have : i = l.length := by omega
    subst this
    rw [List.take_length]
    repeat' (first | refine Goes.seq ?_ | refine Goes.skip ?_ | refine Goes.inBlock ?_ | refine Goes.block ?_ | refine Goes.exit rfl ?_ | (refine Goes.region [4, 5] fun K hK => ?_; simp (maxSteps := 4000000) only [go_sem, ↓reduceIte, reduceCtorEq, Nat.reduceEqDiff, Nat.reduceBEq, Int.reduceBEq, Int.reduceBNe, Nat.reduceLT, Nat.reduceLeDiff, Nat.reduceAdd, Nat.reduceSub, Nat.reduceMul, Int.reduceToNat, Int.reduceEq, Int.reduceLT, Int.reduceLE]; refine hK _ _ ?_; clear hK K))
    refine Goes.ret hC Try.func51 (by simp [go_sem]) ?_
    simp only [go_sem, ↓reduceIte, reduceCtorEq, Nat.reduceEqDiff, Nat.reduceBEq, Int.reduceBEq, Int.reduceBNe, Nat.reduceLT, Nat.reduceLeDiff, Nat.reduceAdd, Nat.reduceSub, Nat.reduceMul, Int.reduceToNat, Int.reduceEq, Int.reduceLT, Int.reduceLE]
    unfold numS
    rw [hl, hσ]
    exact ⟨rfl, rfl⟩

/-- The next text. -/
theorem ptext_calls (r : Nat) (s : RS) (hs : s.1.length < 2 ^ 40) : ACalls Try.prog 46 [.ptr r 2 0 0] (rst r s) (fun e σ' => e = .ret (.v (.string ⟨(textS s).1.toArray⟩)) ∧ σ' = rst r (textS s).2) := by
  refine ACalls.of_body Try.func46 rfl Try.ntmps46 (by simp) fun C hC => ?_
  have h1 := (takeS_len s 2).1
  have hv : (numS s 2).1 < 65536 := by
    have h2 := (takeS_len s 2).2
    have h3 := val_lt (takeS s 2).1
    have : 256 ^ (takeS s 2).1.length ≤ 256 ^ 2 := Nat.pow_le_pow_right (by omega) h2
    show val (takeS s 2).1 < 65536
    omega
  have hw : IntKind.i64.wrap ((numS s 2).1 : Int) = ((numS s 2).1 : Int) := wrap_in _ (by omega) (by omega)
  refine Goes.seq ?_
  refine Goes.region [0] fun K hK => ?_; simp (maxSteps := 4000000) only [go_sem, ↓reduceIte, reduceCtorEq, Nat.reduceEqDiff, Nat.reduceBEq, Int.reduceBEq, Int.reduceBNe, Nat.reduceLT, Nat.reduceLeDiff, Nat.reduceAdd, Nat.reduceSub, Nat.reduceMul, Int.reduceToNat, Int.reduceEq, Int.reduceLT, Int.reduceLE]
  refine hK _ _ ?_; clear hK K
  refine Goes.seq ?_
  refine Goes.region [0] fun K hK => ?_; simp (maxSteps := 4000000) only [go_sem, ↓reduceIte, reduceCtorEq, Nat.reduceEqDiff, Nat.reduceBEq, Int.reduceBEq, Int.reduceBNe, Nat.reduceLT, Nat.reduceLeDiff, Nat.reduceAdd, Nat.reduceSub, Nat.reduceMul, Int.reduceToNat, Int.reduceEq, Int.reduceLT, Int.reduceLE]
  refine ⟨_, Try.call51, (get16_calls r s 2 (by omega) hs).mono ?_⟩
  rintro e σ1 ⟨rfl, rfl⟩
  simp only [go_sem, ↓reduceIte, reduceCtorEq, Nat.reduceEqDiff, Nat.reduceBEq, Int.reduceBEq, Int.reduceBNe, Nat.reduceLT, Nat.reduceLeDiff, Nat.reduceAdd, Nat.reduceSub, Nat.reduceMul, Int.reduceToNat, Int.reduceEq, Int.reduceLT, Int.reduceLE, hw]
  refine ⟨_, Try.call50, (take_calls r (numS s 2).2 (numS s 2).1 (by show (takeS s 2).2.1.length < _; omega) (by omega)).mono ?_⟩
  rintro e σ1 ⟨rfl, rfl⟩
  have q1 := allByte_bD (takeS (numS s 2).2 (numS s 2).1).1
  have p1 := bytesOf_bD (takeS (numS s 2).2 (numS s 2).1).1
  simp only [go_sem, ↓reduceIte, reduceCtorEq, Nat.reduceEqDiff, Nat.reduceBEq, Int.reduceBEq, Int.reduceBNe, Nat.reduceLT, Nat.reduceLeDiff, Nat.reduceAdd, Nat.reduceSub, Nat.reduceMul, Int.reduceToNat, Int.reduceEq, Int.reduceLT, Int.reduceLE, q1, p1]
  refine hK _ _ ?_
  refine Goes.ret hC Try.func46 (by simp [go_sem]) ?_
  simp only [go_sem, ↓reduceIte, reduceCtorEq, Nat.reduceEqDiff, Nat.reduceBEq, Int.reduceBEq, Int.reduceBNe, Nat.reduceLT, Nat.reduceLeDiff, Nat.reduceAdd, Nat.reduceSub, Nat.reduceMul, Int.reduceToNat, Int.reduceEq, Int.reduceLT, Int.reduceLE]
  all_goals exact ⟨rfl, rfl⟩

theorem right_calls (r : Nat) (s : RS) : ACalls Try.prog 40 [.ptr r 2 0 0] (rst r s) (fun e σ' => e = .ret (.v (.bool !s.2)) ∧ σ' = rst r s) := by
  refine ACalls.of_body Try.func40 rfl Try.ntmps40 (by simp) fun C hC => ?_
  have hr : sget r (rst r s) = some (.arr 2 [.agg [.slc (s.1.map bD), .v (.bool s.2)]]) := sget_self ..
  refine Goes.seq ?_
  refine Goes.region [0] fun K hK => ?_; simp (maxSteps := 4000000) only [go_sem, ↓reduceIte, reduceCtorEq, Nat.reduceEqDiff, Nat.reduceBEq, Int.reduceBEq, Int.reduceBNe, Nat.reduceLT, Nat.reduceLeDiff, Nat.reduceAdd, Nat.reduceSub, Nat.reduceMul, Int.reduceToNat, Int.reduceEq, Int.reduceLT, Int.reduceLE]
  refine hK _ _ ?_; clear hK K
  refine Goes.seq ?_
  refine Goes.region [0] fun K hK => ?_; simp (maxSteps := 4000000) only [go_sem, ↓reduceIte, reduceCtorEq, Nat.reduceEqDiff, Nat.reduceBEq, Int.reduceBEq, Int.reduceBNe, Nat.reduceLT, Nat.reduceLeDiff, Nat.reduceAdd, Nat.reduceSub, Nat.reduceMul, Int.reduceToNat, Int.reduceEq, Int.reduceLT, Int.reduceLE, hr]
  refine hK _ _ ?_
  refine Goes.ret hC Try.func40 (by simp [go_sem]) ?_
  simp only [go_sem, ↓reduceIte, reduceCtorEq, Nat.reduceEqDiff, Nat.reduceBEq, Int.reduceBEq, Int.reduceBNe, Nat.reduceLT, Nat.reduceLeDiff, Nat.reduceAdd, Nat.reduceSub, Nat.reduceMul, Int.reduceToNat, Int.reduceEq, Int.reduceLT, Int.reduceLE]

theorem left_calls (r : Nat) (s : RS) : ACalls Try.prog 26 [.ptr r 2 0 0] (rst r s) (fun e σ' => e = .ret (.v (.int .i64 s.1.length)) ∧ σ' = rst r s) := by
  refine ACalls.of_body Try.func26 rfl Try.ntmps26 (by simp) fun C hC => ?_
  have hr : sget r (rst r s) = some (.arr 2 [.agg [.slc (s.1.map bD), .v (.bool s.2)]]) := sget_self ..
  have hl : (s.1.map bD).length = s.1.length := List.length_map ..
  refine Goes.seq ?_
  refine Goes.region [0] fun K hK => ?_; simp (maxSteps := 4000000) only [go_sem, ↓reduceIte, reduceCtorEq, Nat.reduceEqDiff, Nat.reduceBEq, Int.reduceBEq, Int.reduceBNe, Nat.reduceLT, Nat.reduceLeDiff, Nat.reduceAdd, Nat.reduceSub, Nat.reduceMul, Int.reduceToNat, Int.reduceEq, Int.reduceLT, Int.reduceLE]
  refine hK _ _ ?_; clear hK K
  refine Goes.seq ?_
  refine Goes.seq ?_
  refine Goes.region [0] fun K hK => ?_; simp (maxSteps := 4000000) only [go_sem, ↓reduceIte, reduceCtorEq, Nat.reduceEqDiff, Nat.reduceBEq, Int.reduceBEq, Int.reduceBNe, Nat.reduceLT, Nat.reduceLeDiff, Nat.reduceAdd, Nat.reduceSub, Nat.reduceMul, Int.reduceToNat, Int.reduceEq, Int.reduceLT, Int.reduceLE]
  refine hK _ _ (Goes.condF rfl (Goes.skip ?_)); clear hK K
  refine Goes.seq ?_
  refine Goes.region [0] fun K hK => ?_; simp (maxSteps := 4000000) only [go_sem, ↓reduceIte, reduceCtorEq, Nat.reduceEqDiff, Nat.reduceBEq, Int.reduceBEq, Int.reduceBNe, Nat.reduceLT, Nat.reduceLeDiff, Nat.reduceAdd, Nat.reduceSub, Nat.reduceMul, Int.reduceToNat, Int.reduceEq, Int.reduceLT, Int.reduceLE, hr]
  refine hK _ _ ?_
  refine Goes.ret hC Try.func26 (by simp [go_sem]) ?_
  simp only [go_sem, ↓reduceIte, reduceCtorEq, Nat.reduceEqDiff, Nat.reduceBEq, Int.reduceBEq, Int.reduceBNe, Nat.reduceLT, Nat.reduceLeDiff, Nat.reduceAdd, Nat.reduceSub, Nat.reduceMul, Int.reduceToNat, Int.reduceEq, Int.reduceLT, Int.reduceLE, hl]

theorem u32r_calls (r : Nat) (s : RS) (hs : s.1.length < 2 ^ 40) : ACalls Try.prog 39 [.ptr r 2 0 0] (rst r s) (fun e σ' => e = .ret (.v (.int .u32 (numS s 4).1)) ∧ σ' = rst r (numS s 4).2) := by
  refine ACalls.of_body Try.func39 rfl Try.ntmps39 (by simp) fun C hC => ?_
  refine Goes.seq ?_
  refine Goes.region [0] fun K hK => ?_; simp (maxSteps := 4000000) only [go_sem, ↓reduceIte, reduceCtorEq, Nat.reduceEqDiff, Nat.reduceBEq, Int.reduceBEq, Int.reduceBNe, Nat.reduceLT, Nat.reduceLeDiff, Nat.reduceAdd, Nat.reduceSub, Nat.reduceMul, Int.reduceToNat, Int.reduceEq, Int.reduceLT, Int.reduceLE]
  refine hK _ _ ?_; clear hK K
  refine Goes.seq ?_
  refine Goes.region [0] fun K hK => ?_; simp (maxSteps := 4000000) only [go_sem, ↓reduceIte, reduceCtorEq, Nat.reduceEqDiff, Nat.reduceBEq, Int.reduceBEq, Int.reduceBNe, Nat.reduceLT, Nat.reduceLeDiff, Nat.reduceAdd, Nat.reduceSub, Nat.reduceMul, Int.reduceToNat, Int.reduceEq, Int.reduceLT, Int.reduceLE]
  refine ⟨_, Try.call47, (get32_calls r s 4 (by omega) hs).mono ?_⟩
  rintro e σ1 ⟨rfl, rfl⟩
  simp only [go_sem, ↓reduceIte, reduceCtorEq, Nat.reduceEqDiff, Nat.reduceBEq, Int.reduceBEq, Int.reduceBNe, Nat.reduceLT, Nat.reduceLeDiff, Nat.reduceAdd, Nat.reduceSub, Nat.reduceMul, Int.reduceToNat, Int.reduceEq, Int.reduceLT, Int.reduceLE]
  refine hK _ _ ?_
  refine Goes.ret hC Try.func39 (by simp [go_sem]) ?_
  simp only [go_sem, ↓reduceIte, reduceCtorEq, Nat.reduceEqDiff, Nat.reduceBEq, Int.reduceBEq, Int.reduceBNe, Nat.reduceLT, Nat.reduceLeDiff, Nat.reduceAdd, Nat.reduceSub, Nat.reduceMul, Int.reduceToNat, Int.reduceEq, Int.reduceLT, Int.reduceLE]
  all_goals exact ⟨rfl, rfl⟩
end Go.Ab.S21

/- Layer 21: the reader's fields. -/
namespace Go.Ab.S21
open Go Go.Proofs

/-- A reader's row, and others. -/
structure RT (r : Nat) (s : RS) (ρ σ : Store) : Prop where
  eq : σ = rst r s ++ ρ
  apart : sget r ρ = none

theorem RT.keep {r : Nat} {s : RS} {ρ σ : Store} (h : RT r s ρ σ) {b : Nat} {x : AObj} (hb : sget b ρ = some x) : sget b σ = some x := by
  have hne : b ≠ r := fun e => by rw [e, h.apart] at hb; cases hb
  rw [h.eq]
  show sget b ((r, _) :: ρ) = _
  rw [sget_cons, if_neg hne, hb]
theorem RT.ap {r : Nat} {s : RS} {ρ σ : Store} (h : RT r s ρ σ) : Apart ρ (rst r s) := fun b hb => by
  have hne : b ≠ r := fun e => by rw [e, h.apart] at hb; exact hb rfl
  simp [rst, sget, hne]
theorem RT.lift {r : Nat} {s s' : RS} {ρ σ : Store} (h : RT r s ρ σ) {f : FuncId} {args : List D} {e0 : AEnd} (hc : ACalls Try.prog f args (rst r s) (fun e σ' => e = e0 ∧ σ' = rst r s')) : ACalls Try.prog f args σ (fun e σ' => e = e0 ∧ RT r s' ρ σ') := by
  rw [h.eq]
  refine (hc.frame (SLe.append_left _ _) (SLe.append_right h.ap) h.ap).mono ?_
  rintro e σ' ⟨σ1, ⟨rfl, rfl⟩, _, rfl⟩
  exact ⟨rfl, rfl, h.apart⟩

inductive Res (α : Type) where
  | err (e : Int)
  | ok (a : α) (bs : List UInt8)

def Res.bind {α β : Type} : Res α → (α → List UInt8 → Res β) → Res β
  | .err e, _ => .err e
  | .ok a bs, f => f a bs

/-- A number below 2^31. -/
def numR (bs : List UInt8) : Res Int := if (numS (bs, false) 4).2.2 = true then .err 2 else if 2147483648 ≤ (numS (bs, false) 4).1 then .err 4 else .ok (numS (bs, false) 4).1 (numS (bs, false) 4).2.1
def textR (bs : List UInt8) : Res ByteArray := if (textS (bs, false)).2.2 = true then .err 2 else .ok ⟨(textS (bs, false)).1.toArray⟩ (textS (bs, false)).2.1

def REnd {α : Type} (d : α → D) (r : Nat) (ρ : Store) (x : Res α) (e : AEnd) (σ' : Store) : Prop :=
  match x with
  | .err c => e = .panic (wrongP c) ∧ σ' = ρ
  | .ok a bs => e = .ret (d a) ∧ RT r (bs, false) ρ σ'

theorem rnum_calls (r : Nat) (bs : List UInt8) (hs : bs.length < 2 ^ 40) : ACalls Try.prog 41 [.agg [.ptr r 2 0 0]] (rst r (bs, false)) (REnd (fun n : Int => .v (.int .i64 n)) r [] (numR bs)) := by
  refine ACalls.of_body Try.func41 rfl Try.ntmps41 (by simp) fun C hC => ?_
  have hlim : (numS (bs, false) 4).1 < 4294967296 := by
    have h2 := (takeS_len (bs, false) 4).2
    have h3 := val_lt (takeS (bs, false) 4).1
    have : 256 ^ (takeS (bs, false) 4).1.length ≤ 256 ^ 4 := Nat.pow_le_pow_right (by omega) h2
    show val (takeS (bs, false) 4).1 < _
    omega
  refine Goes.seq ?_
  refine Goes.region [0] fun K hK => ?_; simp (maxSteps := 4000000) only [go_sem, ↓reduceIte, reduceCtorEq, Nat.reduceEqDiff, Nat.reduceBEq, Int.reduceBEq, Int.reduceBNe, Nat.reduceLT, Nat.reduceLeDiff, Nat.reduceAdd, Nat.reduceSub, Nat.reduceMul, Int.reduceToNat, Int.reduceEq, Int.reduceLT, Int.reduceLE]
  intro b1 hb1
  refine hK _ _ ?_; clear hK K
  have hne : b1 ≠ r := fun e => by subst e; simp [rst, sget] at hb1
  have hrt : RT r (bs, false) [(b1, .arr 1 [.agg [.ptr r 2 0 0]])] (rst r (bs, false) ++ [(b1, .arr 1 [.agg [.ptr r 2 0 0]])]) := ⟨rfl, by simp [sget, hne.symm]⟩
  refine Goes.le (σ' := rst r (bs, false) ++ [(b1, .arr 1 [.agg [.ptr r 2 0 0]])]) (ELe.refl _) (SLe.append (sle_cons (SLe.refl _) hb1) (SLe.cons (sget_self ..) (SLe.nil _))) ?_
  generalize rst r (bs, false) ++ [(b1, .arr 1 [.agg [.ptr r 2 0 0]])] = σ at hrt
  have h1 := hrt.keep (sget_self ..)
  refine Goes.seq ?_
  refine Goes.region [1] fun K hK => ?_; simp (maxSteps := 4000000) only [go_sem, ↓reduceIte, reduceCtorEq, Nat.reduceEqDiff, Nat.reduceBEq, Int.reduceBEq, Int.reduceBNe, Nat.reduceLT, Nat.reduceLeDiff, Nat.reduceAdd, Nat.reduceSub, Nat.reduceMul, Int.reduceToNat, Int.reduceEq, Int.reduceLT, Int.reduceLE, h1]
  refine ⟨_, Try.call39, (hrt.lift (u32r_calls r (bs, false) hs)).mono ?_⟩
  rintro e σ1 ⟨rfl, hrt1⟩
  simp only [go_sem, ↓reduceIte, reduceCtorEq, Nat.reduceEqDiff, Nat.reduceBEq, Int.reduceBEq, Int.reduceBNe, Nat.reduceLT, Nat.reduceLeDiff, Nat.reduceAdd, Nat.reduceSub, Nat.reduceMul, Int.reduceToNat, Int.reduceEq, Int.reduceLT, Int.reduceLE]
  refine hK _ _ ?_; clear hK K h1 hrt
  have h1 := hrt1.keep (sget_self ..)
  refine Goes.seq ?_
  refine Goes.region [1, 3] fun K hK => ?_; simp (maxSteps := 4000000) only [go_sem, ↓reduceIte, reduceCtorEq, Nat.reduceEqDiff, Nat.reduceBEq, Int.reduceBEq, Int.reduceBNe, Nat.reduceLT, Nat.reduceLeDiff, Nat.reduceAdd, Nat.reduceSub, Nat.reduceMul, Int.reduceToNat, Int.reduceEq, Int.reduceLT, Int.reduceLE, h1]
  refine ⟨_, Try.call40, (hrt1.lift (right_calls r _)).mono ?_⟩
  rintro e σ2 ⟨rfl, hrt2⟩
  simp only [go_sem, ↓reduceIte, reduceCtorEq, Nat.reduceEqDiff, Nat.reduceBEq, Int.reduceBEq, Int.reduceBNe, Nat.reduceLT, Nat.reduceLeDiff, Nat.reduceAdd, Nat.reduceSub, Nat.reduceMul, Int.reduceToNat, Int.reduceEq, Int.reduceLT, Int.reduceLE]
  unfold numR at hC
  refine need_v (fun hb => ?_) (fun hb => ?_)
  rotate_left
  · have hb2 : (numS (bs, false) 4).2.2 = true := by simpa using hb
    rw [if_pos hb2] at hC
    refine (Pan.of hC Try.func41 ?_).le (SLe.nil _)
    exact ⟨rfl, rfl⟩
  have hb2 : (numS (bs, false) 4).2.2 = false := by simpa using hb
  rw [if_neg (by rw [hb2]; simp)] at hC
  simp only [go_sem, ↓reduceIte, reduceCtorEq, Nat.reduceEqDiff, Nat.reduceBEq, Int.reduceBEq, Int.reduceBNe, Nat.reduceLT, Nat.reduceLeDiff, Nat.reduceAdd, Nat.reduceSub, Nat.reduceMul, Int.reduceToNat, Int.reduceEq, Int.reduceLT, Int.reduceLE]
  refine hK _ _ ?_; clear hK K
  refine Goes.seq ?_
  refine Goes.region [1, 3] fun K hK => ?_; simp (maxSteps := 4000000) only [go_sem, ↓reduceIte, reduceCtorEq, Nat.reduceEqDiff, Nat.reduceBEq, Int.reduceBEq, Int.reduceBNe, Nat.reduceLT, Nat.reduceLeDiff, Nat.reduceAdd, Nat.reduceSub, Nat.reduceMul, Int.reduceToNat, Int.reduceEq, Int.reduceLT, Int.reduceLE]
  refine need_v (fun hb => ?_) (fun hb => ?_)
  rotate_left
  · have hb3 : 2147483648 ≤ (numS (bs, false) 4).1 := by have := of_decide_eq_false hb; omega
    rw [if_pos hb3] at hC
    refine (Pan.of hC Try.func41 ?_).le (SLe.nil _)
    exact ⟨rfl, rfl⟩
  have hb3 : (numS (bs, false) 4).1 < 2147483648 := by have := of_decide_eq_true hb; omega
  rw [if_neg (by omega)] at hC
  simp only [go_sem, ↓reduceIte, reduceCtorEq, Nat.reduceEqDiff, Nat.reduceBEq, Int.reduceBEq, Int.reduceBNe, Nat.reduceLT, Nat.reduceLeDiff, Nat.reduceAdd, Nat.reduceSub, Nat.reduceMul, Int.reduceToNat, Int.reduceEq, Int.reduceLT, Int.reduceLE]
  refine hK _ _ ?_; clear hK K
  have hw : IntKind.i64.wrap ((numS (bs, false) 4).1 : Int) = ((numS (bs, false) 4).1 : Int) := wrap_in _ (by omega) (by omega)
  refine Goes.seq ?_
  refine Goes.region [3] fun K hK => ?_; simp (maxSteps := 4000000) only [go_sem, ↓reduceIte, reduceCtorEq, Nat.reduceEqDiff, Nat.reduceBEq, Int.reduceBEq, Int.reduceBNe, Nat.reduceLT, Nat.reduceLeDiff, Nat.reduceAdd, Nat.reduceSub, Nat.reduceMul, Int.reduceToNat, Int.reduceEq, Int.reduceLT, Int.reduceLE, hw]
  refine hK _ _ ?_; clear hK K
  obtain ⟨rfl, hap⟩ := hrt2
  refine Goes.le (ELe.refl _) (SLe.append_left _ _) ?_
  refine Goes.ret hC Try.func41 (by simp [go_sem]) ?_
  simp only [go_sem, ↓reduceIte, reduceCtorEq, Nat.reduceEqDiff, Nat.reduceBEq, Int.reduceBEq, Int.reduceBNe, Nat.reduceLT, Nat.reduceLeDiff, Nat.reduceAdd, Nat.reduceSub, Nat.reduceMul, Int.reduceToNat, Int.reduceEq, Int.reduceLT, Int.reduceLE]
  refine ⟨rfl, ?_, rfl⟩
  rw [List.append_nil]
  exact congrArg (rst r) (Prod.ext (x := (numS (bs, false) 4).2) (y := ((numS (bs, false) 4).2.1, false)) rfl hb2)

theorem rtext_calls (r : Nat) (bs : List UInt8) (hs : bs.length < 2 ^ 40) : ACalls Try.prog 38 [.agg [.ptr r 2 0 0]] (rst r (bs, false)) (REnd (fun s : ByteArray => .v (.string s)) r [] (textR bs)) := by
  refine ACalls.of_body Try.func38 rfl Try.ntmps38 (by simp) fun C hC => ?_
  refine Goes.seq ?_
  refine Goes.region [0] fun K hK => ?_; simp (maxSteps := 4000000) only [go_sem, ↓reduceIte, reduceCtorEq, Nat.reduceEqDiff, Nat.reduceBEq, Int.reduceBEq, Int.reduceBNe, Nat.reduceLT, Nat.reduceLeDiff, Nat.reduceAdd, Nat.reduceSub, Nat.reduceMul, Int.reduceToNat, Int.reduceEq, Int.reduceLT, Int.reduceLE]
  intro b1 hb1
  refine hK _ _ ?_; clear hK K
  have hne : b1 ≠ r := fun e => by subst e; simp [rst, sget] at hb1
  have hrt : RT r (bs, false) [(b1, .arr 1 [.agg [.ptr r 2 0 0]])] (rst r (bs, false) ++ [(b1, .arr 1 [.agg [.ptr r 2 0 0]])]) := ⟨rfl, by simp [sget, hne.symm]⟩
  refine Goes.le (σ' := rst r (bs, false) ++ [(b1, .arr 1 [.agg [.ptr r 2 0 0]])]) (ELe.refl _) (SLe.append (sle_cons (SLe.refl _) hb1) (SLe.cons (sget_self ..) (SLe.nil _))) ?_
  generalize rst r (bs, false) ++ [(b1, .arr 1 [.agg [.ptr r 2 0 0]])] = σ at hrt
  have h1 := hrt.keep (sget_self ..)
  refine Goes.seq ?_
  refine Goes.region [1] fun K hK => ?_; simp (maxSteps := 4000000) only [go_sem, ↓reduceIte, reduceCtorEq, Nat.reduceEqDiff, Nat.reduceBEq, Int.reduceBEq, Int.reduceBNe, Nat.reduceLT, Nat.reduceLeDiff, Nat.reduceAdd, Nat.reduceSub, Nat.reduceMul, Int.reduceToNat, Int.reduceEq, Int.reduceLT, Int.reduceLE, h1]
  refine ⟨_, Try.call46, (hrt.lift (ptext_calls r (bs, false) hs)).mono ?_⟩
  rintro e σ1 ⟨rfl, hrt1⟩
  simp only [go_sem, ↓reduceIte, reduceCtorEq, Nat.reduceEqDiff, Nat.reduceBEq, Int.reduceBEq, Int.reduceBNe, Nat.reduceLT, Nat.reduceLeDiff, Nat.reduceAdd, Nat.reduceSub, Nat.reduceMul, Int.reduceToNat, Int.reduceEq, Int.reduceLT, Int.reduceLE]
  refine hK _ _ ?_; clear hK K h1 hrt
  have h1 := hrt1.keep (sget_self ..)
  refine Goes.seq ?_
  refine Goes.region [1, 3] fun K hK => ?_; simp (maxSteps := 4000000) only [go_sem, ↓reduceIte, reduceCtorEq, Nat.reduceEqDiff, Nat.reduceBEq, Int.reduceBEq, Int.reduceBNe, Nat.reduceLT, Nat.reduceLeDiff, Nat.reduceAdd, Nat.reduceSub, Nat.reduceMul, Int.reduceToNat, Int.reduceEq, Int.reduceLT, Int.reduceLE, h1]
  refine ⟨_, Try.call40, (hrt1.lift (right_calls r _)).mono ?_⟩
  rintro e σ2 ⟨rfl, hrt2⟩
  simp only [go_sem, ↓reduceIte, reduceCtorEq, Nat.reduceEqDiff, Nat.reduceBEq, Int.reduceBEq, Int.reduceBNe, Nat.reduceLT, Nat.reduceLeDiff, Nat.reduceAdd, Nat.reduceSub, Nat.reduceMul, Int.reduceToNat, Int.reduceEq, Int.reduceLT, Int.reduceLE]
  unfold textR at hC
  refine need_v (fun hb => ?_) (fun hb => ?_)
  rotate_left
  · have hb2 : (textS (bs, false)).2.2 = true := by simpa using hb
    rw [if_pos hb2] at hC
    refine (Pan.of hC Try.func38 ?_).le (SLe.nil _)
    exact ⟨rfl, rfl⟩
  have hb2 : (textS (bs, false)).2.2 = false := by simpa using hb
  rw [if_neg (by rw [hb2]; simp)] at hC
  simp only [go_sem, ↓reduceIte, reduceCtorEq, Nat.reduceEqDiff, Nat.reduceBEq, Int.reduceBEq, Int.reduceBNe, Nat.reduceLT, Nat.reduceLeDiff, Nat.reduceAdd, Nat.reduceSub, Nat.reduceMul, Int.reduceToNat, Int.reduceEq, Int.reduceLT, Int.reduceLE]
  refine hK _ _ ?_; clear hK K
  refine Goes.seq ?_
  refine Goes.region [3] fun K hK => ?_; simp (maxSteps := 4000000) only [go_sem, ↓reduceIte, reduceCtorEq, Nat.reduceEqDiff, Nat.reduceBEq, Int.reduceBEq, Int.reduceBNe, Nat.reduceLT, Nat.reduceLeDiff, Nat.reduceAdd, Nat.reduceSub, Nat.reduceMul, Int.reduceToNat, Int.reduceEq, Int.reduceLT, Int.reduceLE]
  refine hK _ _ ?_; clear hK K
  obtain ⟨rfl, hap⟩ := hrt2
  refine Goes.le (ELe.refl _) (SLe.append_left _ _) ?_
  refine Goes.ret hC Try.func38 (by simp [go_sem]) ?_
  simp only [go_sem, ↓reduceIte, reduceCtorEq, Nat.reduceEqDiff, Nat.reduceBEq, Int.reduceBEq, Int.reduceBNe, Nat.reduceLT, Nat.reduceLeDiff, Nat.reduceAdd, Nat.reduceSub, Nat.reduceMul, Int.reduceToNat, Int.reduceEq, Int.reduceLT, Int.reduceLE]
  refine ⟨rfl, ?_, rfl⟩
  rw [List.append_nil]
  exact congrArg (rst r) (Prod.ext (x := (textS (bs, false)).2) (y := ((textS (bs, false)).2.1, false)) rfl hb2)

theorem RT.res {α : Type} {d : α → D} {r : Nat} {bs : List UInt8} {ρ σ : Store} {x : Res α} (h : RT r (bs, false) ρ σ) {f : FuncId} {args : List D} (hc : ACalls Try.prog f args (rst r (bs, false)) (REnd d r [] x)) : ACalls Try.prog f args σ (REnd d r ρ x) := by
  rw [h.eq]
  refine (hc.frame (SLe.append_left _ _) (SLe.append_right h.ap) h.ap).mono ?_
  rintro e σ' ⟨σ1, hR, _, rfl⟩
  cases x with
  | err c => obtain ⟨rfl, rfl⟩ := hR; exact ⟨rfl, rfl⟩
  | ok a bs' =>
    obtain ⟨rfl, heq, _⟩ := hR
    rw [List.append_nil] at heq
    subst heq
    exact ⟨rfl, rfl, h.apart⟩

/-- slices.Clone of bytes that are only read. -/
theorem clone_slc (xs : List D) (σ : Store) (hp : ∀ x ∈ xs, x.cells.length = 1 ∧ x.plain = true) (hl : xs.length < 2 ^ 40) :
    ACalls Try.prog 37 [.slc xs] σ (fun e σ' => e = .ret (.slc xs) ∧ σ' = σ) := by
  refine ACalls.ret_le (R := fun e σ' => (e = .ret (.slc xs) ∧ σ' = σ) ∨ (xs = [] ∧ e = .ret (.v (.slice none 0 0)) ∧ σ' = σ)) ?_ fun e σ' h => ?_
  rotate_left
  · rcases h with h | ⟨rfl, rfl, rfl⟩
    · exact .inl h
    · exact .inr ⟨_, _, rfl, DLe.nil_slc, rfl, rfl⟩
  refine ACalls.of_body Try.func37 rfl Try.ntmps37 (by simp) fun C hC => ?_
  repeat' (first | refine Goes.seq ?_ | refine Goes.skip ?_ | refine Goes.inBlock ?_ | refine Goes.block ?_ | refine Goes.exit rfl ?_ | (refine Goes.region [0, 2] fun K hK => ?_; simp (maxSteps := 4000000) only [go_sem, ↓reduceIte, reduceCtorEq, Nat.reduceEqDiff, Nat.reduceBEq, Int.reduceBEq, Int.reduceBNe, Nat.reduceLT, Nat.reduceLeDiff, Nat.reduceAdd, Nat.reduceSub, Nat.reduceMul, Int.reduceToNat, Int.reduceEq, Int.reduceLT, Int.reduceLE]; refine hK _ _ ?_; clear hK K))
  refine Goes.region [0, 2] fun K hK => ?_; simp (maxSteps := 4000000) only [go_sem, ↓reduceIte, reduceCtorEq, Nat.reduceEqDiff, Nat.reduceBEq, Int.reduceBEq, Int.reduceBNe, Nat.reduceLT, Nat.reduceLeDiff, Nat.reduceAdd, Nat.reduceSub, Nat.reduceMul, Int.reduceToNat, Int.reduceEq, Int.reduceLT, Int.reduceLE]
  intro t ht
  refine hK _ _ ?_; clear hK K
  refine Goes.cond rfl (fun h => ?_) (fun h => ?_)
  · have hx : xs = [] := by
      cases xs with
      | nil => rfl
      | cons a l => have := ht (by simp); rw [h] at this; cases this
    repeat' (first | refine Goes.seq ?_ | refine Goes.skip ?_ | refine Goes.inBlock ?_ | refine Goes.block ?_ | refine Goes.exit rfl ?_ | (refine Goes.region [2] fun K hK => ?_; simp (maxSteps := 4000000) only [go_sem, ↓reduceIte, reduceCtorEq, Nat.reduceEqDiff, Nat.reduceBEq, Int.reduceBEq, Int.reduceBNe, Nat.reduceLT, Nat.reduceLeDiff, Nat.reduceAdd, Nat.reduceSub, Nat.reduceMul, Int.reduceToNat, Int.reduceEq, Int.reduceLT, Int.reduceLE]; refine hK _ _ ?_; clear hK K))
    refine Goes.ret hC Try.func37 (by simp [go_sem]) ?_
    simp only [go_sem, ↓reduceIte, reduceCtorEq, Nat.reduceEqDiff, Nat.reduceBEq, Int.reduceBEq, Int.reduceBNe, Nat.reduceLT, Nat.reduceLeDiff, Nat.reduceAdd, Nat.reduceSub, Nat.reduceMul, Int.reduceToNat, Int.reduceEq, Int.reduceLT, Int.reduceLE]
    exact .inr hx
  · repeat' (first | refine Goes.seq ?_ | refine Goes.skip ?_ | refine Goes.inBlock ?_ | refine Goes.block ?_ | refine Goes.exit rfl ?_ | (refine Goes.region [0, 2] fun K hK => ?_; simp (maxSteps := 4000000) only [go_sem, ↓reduceIte, reduceCtorEq, Nat.reduceEqDiff, Nat.reduceBEq, Int.reduceBEq, Int.reduceBNe, Nat.reduceLT, Nat.reduceLeDiff, Nat.reduceAdd, Nat.reduceSub, Nat.reduceMul, Int.reduceToNat, Int.reduceEq, Int.reduceLT, Int.reduceLE]; refine hK _ _ ?_; clear hK K))
    refine Goes.regionM [0, 2] [5, 7] fun K hK => ?_; simp (maxSteps := 4000000) only [go_sem, ↓reduceIte, reduceCtorEq, Nat.reduceEqDiff, Nat.reduceBEq, Int.reduceBEq, Int.reduceBNe, Nat.reduceLT, Nat.reduceLeDiff, Nat.reduceAdd, Nat.reduceSub, Nat.reduceMul, Int.reduceToNat, Int.reduceEq, Int.reduceLT, Int.reduceLE]
    refine ⟨⟨hp, by omega, by omega⟩, hK _ _ ?_⟩
    refine Goes.ret hC Try.func37 (by simp [go_sem]) ?_
    simp only [go_sem, ↓reduceIte, reduceCtorEq, Nat.reduceEqDiff, Nat.reduceBEq, Int.reduceBEq, Int.reduceBNe, Nat.reduceLT, Nat.reduceLeDiff, Nat.reduceAdd, Nat.reduceSub, Nat.reduceMul, Int.reduceToNat, Int.reduceEq, Int.reduceLT, Int.reduceLE]

/-- pack.New: a reader of its own. -/
theorem new_calls (bs : List UInt8) (σ : Store) (hl : bs.length < 2 ^ 39) : ACalls Try.prog 24 [.slc (bs.map bD)] σ (fun e σ' => ∃ r, sget r σ = none ∧ e = .ret (.ptr r 2 0 0) ∧ σ' = rst r (bs, false) ++ σ) := by
  refine ACalls.of_body Try.func24 rfl Try.ntmps24 (by simp) fun C hC => ?_
  refine Goes.seq ?_
  refine Goes.region [0] fun K hK => ?_; simp (maxSteps := 4000000) only [go_sem, ↓reduceIte, reduceCtorEq, Nat.reduceEqDiff, Nat.reduceBEq, Int.reduceBEq, Int.reduceBNe, Nat.reduceLT, Nat.reduceLeDiff, Nat.reduceAdd, Nat.reduceSub, Nat.reduceMul, Int.reduceToNat, Int.reduceEq, Int.reduceLT, Int.reduceLE]
  refine hK _ _ ?_; clear hK K
  refine Goes.seq ?_
  refine Goes.region [0] fun K hK => ?_; simp (maxSteps := 4000000) only [go_sem, ↓reduceIte, reduceCtorEq, Nat.reduceEqDiff, Nat.reduceBEq, Int.reduceBEq, Int.reduceBNe, Nat.reduceLT, Nat.reduceLeDiff, Nat.reduceAdd, Nat.reduceSub, Nat.reduceMul, Int.reduceToNat, Int.reduceEq, Int.reduceLT, Int.reduceLE]
  refine ⟨_, Try.call37, (clone_slc (bs.map bD) _ (plain_bD bs) (by simp; omega)).mono ?_⟩
  rintro e σ1 ⟨rfl, rfl⟩
  simp only [go_sem, ↓reduceIte, reduceCtorEq, Nat.reduceEqDiff, Nat.reduceBEq, Int.reduceBEq, Int.reduceBNe, Nat.reduceLT, Nat.reduceLeDiff, Nat.reduceAdd, Nat.reduceSub, Nat.reduceMul, Int.reduceToNat, Int.reduceEq, Int.reduceLT, Int.reduceLE]
  intro r hr
  refine hK _ _ ?_
  refine Goes.ret hC Try.func24 (by simp [go_sem]) ?_
  simp only [go_sem, ↓reduceIte, reduceCtorEq, Nat.reduceEqDiff, Nat.reduceBEq, Int.reduceBEq, Int.reduceBNe, Nat.reduceLT, Nat.reduceLeDiff, Nat.reduceAdd, Nat.reduceSub, Nat.reduceMul, Int.reduceToNat, Int.reduceEq, Int.reduceLT, Int.reduceLE]
  exact ⟨r, hr, rfl, rfl⟩
end Go.Ab.S21

/- Layer 21: reader.act. -/
namespace Go.Ab.S21
open Go Go.Proofs

def optR {α : Type} (f : Bool) (g : List UInt8 → Res α) (a : α) (bs : List UInt8) : Res α := if f = true then g bs else .ok a bs
def manyR {α : Type} (g : List UInt8 → Res α) : Nat → List UInt8 → Res (List α)
  | 0, bs => .ok [] bs
  | n + 1, bs => (g bs).bind fun a bs => (manyR g n bs).bind fun l bs => .ok (a :: l) bs
def armR (bs : List UInt8) : Res Int := if (numS (bs, false) 4).2.2 = true then .err 2 else .ok (IntKind.i32.wrap (numS (bs, false) 4).1) (numS (bs, false) 4).2.1
def nR (f2 : Bool) (k : Int) (bs : List UInt8) : Res Int := if f2 = true then (if k = 9 then armR bs else numR bs) else .ok 0 bs
def listR {α : Type} (g : List UInt8 → Res α) (bs : List UInt8) : Res (List α) := (numR bs).bind fun n bs => manyR g n.toNat bs

/-- An act, behind its kind. -/
def actR (k : Int) (bs : List UInt8) : Res XAct :=
  match fieldsD k with
  | ([f0, f1, f2, f3, f4], kn) => if kn = false then .err 4 else
    (optR f0 textR ByteArray.empty bs).bind fun nm bs => (optR f1 textR ByteArray.empty bs).bind fun by_ bs => (nR f2 k bs).bind fun n bs =>
    (optR f3 (listR textR) [] bs).bind fun ns bs => (optR f4 (listR numR) [] bs).bind fun ts bs => .ok ⟨k, n, nm, by_.data.toList, ns, ts⟩ bs
  | _ => .err 4

/-- A field that is told as a slice that is only read. -/
structure FD (d l : D) : Prop where
  le : DLe d l
  cells : d.cells = [d]
  plain : d.plain = true
  cell : d.cell = true
  pub : ∀ b sz xs, D.pub b sz xs d = d
theorem FD.nil : FD (.v (.slice none 0 0)) (.slc []) := ⟨DLe.nil_slc, rfl, rfl, rfl, fun _ _ _ => rfl⟩
theorem FD.slc (xs : List D) : FD (.slc xs) (.slc xs) := ⟨DLe.refl _, rfl, rfl, rfl, fun _ _ _ => rfl⟩

def flD (f0 f1 f2 f3 f4 : Bool) : AObj := .arr 5 [.agg [.v (.bool f0), .v (.bool f1), .v (.bool f2), .v (.bool f3), .v (.bool f4)]]

/-- The state of reader.act: the reader's bytes, and the act so far. -/
structure Fr25 (r b2 b4 b5 b7 : Nat) (f0 f1 f2 f3 f4 : Bool) (bs : List UInt8) (ys : List D) (env : Env) (σ : Store) : Prop where
  e2 : eget 2 env = .ptr b2 1 0 0
  e4 : eget 4 env = .ptr b4 6 0 0
  e5 : eget 5 env = .ptr b5 5 0 0
  e7 : eget 7 env = .ptr b7 6 0 0
  rt : RT r (bs, false) [(b7, .arr 6 [.agg ys]), (b5, flD f0 f1 f2 f3 f4), (b4, .arr 6 [.agg [.v (.int .i64 0), .v (.int .i64 0), .v (.string ByteArray.empty), .v (.slice none 0 0), .v (.slice none 0 0), .v (.slice none 0 0)]]), (b2, .arr 1 [.agg [.ptr r 2 0 0]])] σ
  n1 : b5 ≠ b7
  n2 : b4 ≠ b7
  n3 : b2 ≠ b7
  n4 : b4 ≠ b5
  n5 : b2 ≠ b5
  n6 : b2 ≠ b4

section
variable {r b2 b4 b5 b7 : Nat} {f0 f1 f2 f3 f4 : Bool} {bs : List UInt8} {ys : List D} {env : Env} {σ : Store} (h : Fr25 r b2 b4 b5 b7 f0 f1 f2 f3 f4 bs ys env σ)
include h
theorem Fr25.g7 : sget b7 σ = some (.arr 6 [.agg ys]) := h.rt.keep (sget_self ..)
theorem Fr25.g5 : sget b5 σ = some (flD f0 f1 f2 f3 f4) := h.rt.keep (by rw [sget_cons, if_neg h.n1, sget_self])
theorem Fr25.g2 : sget b2 σ = some (.arr 1 [.agg [.ptr r 2 0 0]]) := h.rt.keep (by rw [sget_cons, if_neg h.n3, sget_cons, if_neg h.n5, sget_cons, if_neg h.n6, sget_self])
theorem Fr25.g4 : sget b4 σ = some (.arr 6 [.agg [.v (.int .i64 0), .v (.int .i64 0), .v (.string ByteArray.empty), .v (.slice none 0 0), .v (.slice none 0 0), .v (.slice none 0 0)]]) := h.rt.keep (by rw [sget_cons, if_neg h.n2, sget_cons, if_neg h.n4, sget_self])
end

theorem RT.set {r : Nat} {s : RS} {σ : Store} {b : Nat} {x y : AObj} {ρ : Store} (h : RT r s ((b, x) :: ρ) σ) : RT r s ((b, y) :: ρ) (sset b y σ) := by
  have hne : b ≠ r := fun e => by have := h.apart; rw [e, sget_self] at this; cases this
  refine ⟨?_, by have := h.apart; rw [sget_cons, if_neg hne.symm] at this ⊢; exact this⟩
  rw [h.eq]
  show sset b y ((r, _) :: (b, x) :: ρ) = (r, _) :: (b, y) :: ρ
  rw [sset_ne hne, sset_self]

theorem r_name {C : Ctx Try.prog ⟨81, []⟩} {r b2 b4 b5 b7 : Nat} {f0 f1 f2 f3 f4 : Bool} {bs : List UInt8} {y0 y1 y3 y4 y5 : D} {env : Env} {σ : Store} (hs : bs.length < 2 ^ 40) (h : Fr25 r b2 b4 b5 b7 f0 f1 f2 f3 f4 bs [y0, y1, .v (.string ByteArray.empty), y3, y4, y5] env σ)
    (hp : ∀ c, optR f0 textR ByteArray.empty bs = .err c → ∀ σ, Pan C (wrongP c) σ) (k' : List Item)
    (hk' : ∀ s bs', optR f0 textR ByteArray.empty bs = .ok s bs' → ∀ env σ, Fr25 r b2 b4 b5 b7 f0 f1 f2 f3 f4 bs' [y0, y1, .v (.string s), y3, y4, y5] env σ → Goes C k' env σ) :
    Goes C (.code (bodyAt Try.f25 [1, 1, 1, 1, 0]) :: k') env σ := by
  have g5 := h.g5
  unfold flD at g5
  have g2 := h.g2
  obtain ⟨e2, e4, e5, e7, rt, n1, n2, n3, n4, n5, n6⟩ := h
  refine Goes.seq ?_
  refine Goes.region [2, 4, 5, 7] fun K hK => ?_; simp (maxSteps := 4000000) only [go_sem, ↓reduceIte, reduceCtorEq, Nat.reduceEqDiff, Nat.reduceBEq, Int.reduceBEq, Int.reduceBNe, Nat.reduceLT, Nat.reduceLeDiff, Nat.reduceAdd, Nat.reduceSub, Nat.reduceMul, Int.reduceToNat, Int.reduceEq, Int.reduceLT, Int.reduceLE, e2, e4, e5, e7, g5]
  refine hK _ _ (Goes.cond rfl (fun hf => ?_) (fun hf => ?_)); all_goals clear hK K
  · have ho : optR f0 textR ByteArray.empty bs = textR bs := if_pos hf
    rw [ho] at hp hk'
    refine Goes.region [2, 4, 5, 7] fun K hK => ?_; simp (maxSteps := 4000000) only [go_sem, ↓reduceIte, reduceCtorEq, Nat.reduceEqDiff, Nat.reduceBEq, Int.reduceBEq, Int.reduceBNe, Nat.reduceLT, Nat.reduceLeDiff, Nat.reduceAdd, Nat.reduceSub, Nat.reduceMul, Int.reduceToNat, Int.reduceEq, Int.reduceLT, Int.reduceLE, g2]
    refine ⟨_, Try.call38, (rt.res (rtext_calls r bs hs)).mono ?_⟩
    intro e σ1 hR
    cases hx : textR bs with
    | err c =>
      rw [hx] at hR
      obtain ⟨rfl, rfl⟩ := hR
      simp only [go_sem, ↓reduceIte, reduceCtorEq, Nat.reduceEqDiff, Nat.reduceBEq, Int.reduceBEq, Int.reduceBNe, Nat.reduceLT, Nat.reduceLeDiff, Nat.reduceAdd, Nat.reduceSub, Nat.reduceMul, Int.reduceToNat, Int.reduceEq, Int.reduceLT, Int.reduceLE]
      exact hp c hx _
    | ok s bs' =>
      rw [hx] at hR
      obtain ⟨rfl, rt1⟩ := hR
      have g7 := rt1.keep (sget_self ..)
      simp only [go_sem, ↓reduceIte, reduceCtorEq, Nat.reduceEqDiff, Nat.reduceBEq, Int.reduceBEq, Int.reduceBNe, Nat.reduceLT, Nat.reduceLeDiff, Nat.reduceAdd, Nat.reduceSub, Nat.reduceMul, Int.reduceToNat, Int.reduceEq, Int.reduceLT, Int.reduceLE, g7]
      refine hK _ _ (hk' s bs' hx _ _ ⟨rfl, rfl, rfl, rfl, rt1.set, n1, n2, n3, n4, n5, n6⟩)
  · exact Goes.skip (hk' _ _ (if_neg (by rw [hf]; simp)) _ _ ⟨rfl, rfl, rfl, rfl, rt, n1, n2, n3, n4, n5, n6⟩)
theorem r_bytes {C : Ctx Try.prog ⟨81, []⟩} {r b2 b4 b5 b7 : Nat} {f0 f1 f2 f3 f4 : Bool} {bs : List UInt8} {y0 y1 y2 y4 y5 : D} {env : Env} {σ : Store} (hs : bs.length < 2 ^ 40) (h : Fr25 r b2 b4 b5 b7 f0 f1 f2 f3 f4 bs [y0, y1, y2, .v (.slice none 0 0), y4, y5] env σ)
    (hp : ∀ c, optR f1 textR ByteArray.empty bs = .err c → ∀ σ, Pan C (wrongP c) σ) (k' : List Item)
    (hk' : ∀ s bs', optR f1 textR ByteArray.empty bs = .ok s bs' → ∀ d env σ, FD d (.slc (s.data.toList.map bD)) → Fr25 r b2 b4 b5 b7 f0 f1 f2 f3 f4 bs' [y0, y1, y2, d, y4, y5] env σ → Goes C k' env σ) :
    Goes C (.code (bodyAt Try.f25 [1, 1, 1, 1, 1, 0]) :: k') env σ := by
  have g5 := h.g5
  unfold flD at g5
  have g2 := h.g2
  obtain ⟨e2, e4, e5, e7, rt, n1, n2, n3, n4, n5, n6⟩ := h
  refine Goes.seq ?_
  refine Goes.region [2, 4, 5, 7] fun K hK => ?_; simp (maxSteps := 4000000) only [go_sem, ↓reduceIte, reduceCtorEq, Nat.reduceEqDiff, Nat.reduceBEq, Int.reduceBEq, Int.reduceBNe, Nat.reduceLT, Nat.reduceLeDiff, Nat.reduceAdd, Nat.reduceSub, Nat.reduceMul, Int.reduceToNat, Int.reduceEq, Int.reduceLT, Int.reduceLE, e2, e4, e5, e7, g5]
  refine hK _ _ (Goes.cond rfl (fun hf => ?_) (fun hf => ?_)); all_goals clear hK K
  · have ho : optR f1 textR ByteArray.empty bs = textR bs := if_pos hf
    rw [ho] at hp hk'
    refine Goes.regionM [2, 4, 5, 7] [28] fun K hK => ?_; simp (maxSteps := 4000000) only [go_sem, ↓reduceIte, reduceCtorEq, Nat.reduceEqDiff, Nat.reduceBEq, Int.reduceBEq, Int.reduceBNe, Nat.reduceLT, Nat.reduceLeDiff, Nat.reduceAdd, Nat.reduceSub, Nat.reduceMul, Int.reduceToNat, Int.reduceEq, Int.reduceLT, Int.reduceLE, g2]
    refine ⟨_, Try.call38, (rt.res (rtext_calls r bs hs)).mono ?_⟩
    intro e σ1 hR
    cases hx : textR bs with
    | err c =>
      rw [hx] at hR
      obtain ⟨rfl, rfl⟩ := hR
      simp only [go_sem, ↓reduceIte, reduceCtorEq, Nat.reduceEqDiff, Nat.reduceBEq, Int.reduceBEq, Int.reduceBNe, Nat.reduceLT, Nat.reduceLeDiff, Nat.reduceAdd, Nat.reduceSub, Nat.reduceMul, Int.reduceToNat, Int.reduceEq, Int.reduceLT, Int.reduceLE]
      exact hp c hx _
    | ok s bs' =>
      rw [hx] at hR
      obtain ⟨rfl, rt1⟩ := hR
      have g7 := rt1.keep (sget_self ..)
      have hsz : s.size < 2 ^ 46 := by
        unfold textR at hx
        split at hx
        · cases hx
        · cases hx
          rw [size_mk]
          have h1 := (takeS_len (bs, false) 2).1
          have h2 := (takeS_len (bs, false) 2).2
          have h3 := val_lt (takeS (bs, false) 2).1
          have h4 : 256 ^ (takeS (bs, false) 2).1.length ≤ 256 ^ 2 := Nat.pow_le_pow_right (by omega) h2
          have h5 := (takeS_len (numS (bs, false) 2).2 (numS (bs, false) 2).1).2
          show (takeS _ _).1.length < _
          have : (numS (bs, false) 2).1 = val (takeS (bs, false) 2).1 := rfl
          omega
      have hlen : (s.data.toList.map bD).length = s.size := by simp
      simp only [go_sem, ↓reduceIte, reduceCtorEq, Nat.reduceEqDiff, Nat.reduceBEq, Int.reduceBEq, Int.reduceBNe, Nat.reduceLT, Nat.reduceLeDiff, Nat.reduceAdd, Nat.reduceSub, Nat.reduceMul, Int.reduceToNat, Int.reduceEq, Int.reduceLT, Int.reduceLE, g7, hlen]
      refine ⟨?_, hK _ _ (hk' s bs' hx (.slc (s.data.toList.map bD)) _ _ (FD.slc _) ⟨rfl, rfl, rfl, rfl, rt1.set, n1, n2, n3, n4, n5, n6⟩)⟩
      simpa using hsz
  · exact Goes.skip (hk' _ _ (if_neg (by rw [hf]; simp)) _ _ _ FD.nil ⟨rfl, rfl, rfl, rfl, rt, n1, n2, n3, n4, n5, n6⟩)
theorem r_num {C : Ctx Try.prog ⟨81, []⟩} {r b2 b4 b5 b7 : Nat} {k : Int} {f0 f1 f2 f3 f4 : Bool} {bs : List UInt8} {y2 y3 y4 y5 : D} {env : Env} {σ : Store} (hs : bs.length < 2 ^ 40) (h : Fr25 r b2 b4 b5 b7 f0 f1 f2 f3 f4 bs [.v (.int .i64 k), .v (.int .i64 0), y2, y3, y4, y5] env σ)
    (hp : ∀ c, nR f2 k bs = .err c → ∀ σ, Pan C (wrongP c) σ) (k' : List Item)
    (hk' : ∀ n bs', nR f2 k bs = .ok n bs' → ∀ env σ, Fr25 r b2 b4 b5 b7 f0 f1 f2 f3 f4 bs' [.v (.int .i64 k), .v (.int .i64 n), y2, y3, y4, y5] env σ → Goes C k' env σ) :
    Goes C (.code (bodyAt Try.f25 [1, 1, 1, 1, 1, 1, 0]) :: k') env σ := by
  have g5 := h.g5
  unfold flD at g5
  have g2 := h.g2
  have g7 := h.g7
  obtain ⟨e2, e4, e5, e7, rt, n1, n2, n3, n4, n5, n6⟩ := h
  refine Goes.seq ?_
  have arm : f2 = true → k = 9 → ∀ env, eget 2 env = .ptr b2 1 0 0 → eget 4 env = .ptr b4 6 0 0 → eget 5 env = .ptr b5 5 0 0 → eget 7 env = .ptr b7 6 0 0 → Goes C (.code (bodyAt Try.f25 [1, 1, 1, 1, 1, 1, 0, 1, 0]) :: k') env σ := fun hf hk env e2 e4 e5 e7 => by
    have ho : nR f2 k bs = armR bs := by unfold nR; rw [if_pos hf, if_pos hk]
    rw [ho] at hp hk'
    have hlim : (numS (bs, false) 4).1 < 4294967296 := by
      have h2 := (takeS_len (bs, false) 4).2
      have h3 := val_lt (takeS (bs, false) 4).1
      have : 256 ^ (takeS (bs, false) 4).1.length ≤ 256 ^ 4 := Nat.pow_le_pow_right (by omega) h2
      show val (takeS (bs, false) 4).1 < _
      omega
    have hw : IntKind.i64.wrap (IntKind.i32.wrap ((numS (bs, false) 4).1 : Int)) = IntKind.i32.wrap ((numS (bs, false) 4).1 : Int) := by
      simp [IntKind.wrap, IntKind.bits, IntKind.signed]; omega
    refine Goes.seq ?_
    refine Goes.region [2, 4, 5, 7] fun K hK => ?_; simp (maxSteps := 4000000) only [go_sem, ↓reduceIte, reduceCtorEq, Nat.reduceEqDiff, Nat.reduceBEq, Int.reduceBEq, Int.reduceBNe, Nat.reduceLT, Nat.reduceLeDiff, Nat.reduceAdd, Nat.reduceSub, Nat.reduceMul, Int.reduceToNat, Int.reduceEq, Int.reduceLT, Int.reduceLE, e2, e4, e5, e7, g2]
    refine ⟨_, Try.call39, (rt.lift (u32r_calls r (bs, false) hs)).mono ?_⟩
    rintro e σ1 ⟨rfl, rt1⟩
    have g7 := rt1.keep (sget_self ..)
    simp only [go_sem, ↓reduceIte, reduceCtorEq, Nat.reduceEqDiff, Nat.reduceBEq, Int.reduceBEq, Int.reduceBNe, Nat.reduceLT, Nat.reduceLeDiff, Nat.reduceAdd, Nat.reduceSub, Nat.reduceMul, Int.reduceToNat, Int.reduceEq, Int.reduceLT, Int.reduceLE, g7, hw]
    refine hK _ _ ?_; clear hK K
    have rt2 := rt1.set (y := .arr 6 [.agg [.v (.int .i64 k), .v (.int .i64 (IntKind.i32.wrap ((numS (bs, false) 4).1 : Int))), y2, y3, y4, y5]])
    have g22 := rt2.keep (b := b2) (by rw [sget_cons, if_neg n3, sget_cons, if_neg n5, sget_cons, if_neg n6, sget_self])
    generalize sset b7 _ σ1 = σ2 at rt2 g22 ⊢
    refine Goes.region [2, 4, 5, 7] fun K hK => ?_; simp (maxSteps := 4000000) only [go_sem, ↓reduceIte, reduceCtorEq, Nat.reduceEqDiff, Nat.reduceBEq, Int.reduceBEq, Int.reduceBNe, Nat.reduceLT, Nat.reduceLeDiff, Nat.reduceAdd, Nat.reduceSub, Nat.reduceMul, Int.reduceToNat, Int.reduceEq, Int.reduceLT, Int.reduceLE, g22]
    refine ⟨_, Try.call40, (rt2.lift (right_calls r _)).mono ?_⟩
    rintro e σ3 ⟨rfl, rt3⟩
    simp only [go_sem, ↓reduceIte, reduceCtorEq, Nat.reduceEqDiff, Nat.reduceBEq, Int.reduceBEq, Int.reduceBNe, Nat.reduceLT, Nat.reduceLeDiff, Nat.reduceAdd, Nat.reduceSub, Nat.reduceMul, Int.reduceToNat, Int.reduceEq, Int.reduceLT, Int.reduceLE]
    unfold armR at hp hk'
    refine need_v (fun hb => ?_) (fun hb => ?_)
    rotate_left
    · have hb2 : (numS (bs, false) 4).2.2 = true := by simpa using hb
      exact hp 2 (if_pos hb2) _
    have hb2 : (numS (bs, false) 4).2.2 = false := by simpa using hb
    simp only [go_sem, ↓reduceIte, reduceCtorEq, Nat.reduceEqDiff, Nat.reduceBEq, Int.reduceBEq, Int.reduceBNe, Nat.reduceLT, Nat.reduceLeDiff, Nat.reduceAdd, Nat.reduceSub, Nat.reduceMul, Int.reduceToNat, Int.reduceEq, Int.reduceLT, Int.reduceLE]
    refine hK _ _ (hk' _ _ (if_neg (by rw [hb2]; simp)) _ _ ⟨rfl, rfl, rfl, rfl, ?_, n1, n2, n3, n4, n5, n6⟩)
    have he : (numS (bs, false) 4).2 = ((numS (bs, false) 4).2.1, false) := Prod.ext (x := (numS (bs, false) 4).2) (y := ((numS (bs, false) 4).2.1, false)) rfl hb2
    rw [← he]; exact rt3
  have oth : f2 = false ∨ k ≠ 9 → ∀ env, eget 2 env = .ptr b2 1 0 0 → eget 4 env = .ptr b4 6 0 0 → eget 5 env = .ptr b5 5 0 0 → eget 7 env = .ptr b7 6 0 0 → Goes C (.code (bodyAt Try.f25 [1, 1, 1, 1, 1, 1, 0, 1, 1]) :: k') env σ := fun hk env e2 e4 e5 e7 => by
    refine Goes.seq ?_
    refine Goes.region [2, 4, 5, 7] fun K hK => ?_; simp (maxSteps := 4000000) only [go_sem, ↓reduceIte, reduceCtorEq, Nat.reduceEqDiff, Nat.reduceBEq, Int.reduceBEq, Int.reduceBNe, Nat.reduceLT, Nat.reduceLeDiff, Nat.reduceAdd, Nat.reduceSub, Nat.reduceMul, Int.reduceToNat, Int.reduceEq, Int.reduceLT, Int.reduceLE, e2, e4, e5, e7, g5]
    refine hK _ _ (Goes.cond rfl (fun hf => ?_) (fun hf => ?_)); all_goals clear hK K
    · have hk9 : k ≠ 9 := hk.resolve_left (by rw [hf]; simp)
      have ho : nR f2 k bs = numR bs := by unfold nR; rw [if_pos hf, if_neg hk9]
      rw [ho] at hp hk'
      refine Goes.region [2, 4, 5, 7] fun K hK => ?_; simp (maxSteps := 4000000) only [go_sem, ↓reduceIte, reduceCtorEq, Nat.reduceEqDiff, Nat.reduceBEq, Int.reduceBEq, Int.reduceBNe, Nat.reduceLT, Nat.reduceLeDiff, Nat.reduceAdd, Nat.reduceSub, Nat.reduceMul, Int.reduceToNat, Int.reduceEq, Int.reduceLT, Int.reduceLE, g2]
      refine ⟨_, Try.call41, (rt.res (rnum_calls r bs hs)).mono ?_⟩
      intro e σ1 hR
      cases hx : numR bs with
      | err c =>
        rw [hx] at hR
        obtain ⟨rfl, rfl⟩ := hR
        simp only [go_sem, ↓reduceIte, reduceCtorEq, Nat.reduceEqDiff, Nat.reduceBEq, Int.reduceBEq, Int.reduceBNe, Nat.reduceLT, Nat.reduceLeDiff, Nat.reduceAdd, Nat.reduceSub, Nat.reduceMul, Int.reduceToNat, Int.reduceEq, Int.reduceLT, Int.reduceLE]
        exact hp c hx _
      | ok s bs' =>
        rw [hx] at hR
        obtain ⟨rfl, rt1⟩ := hR
        have g7 := rt1.keep (sget_self ..)
        simp only [go_sem, ↓reduceIte, reduceCtorEq, Nat.reduceEqDiff, Nat.reduceBEq, Int.reduceBEq, Int.reduceBNe, Nat.reduceLT, Nat.reduceLeDiff, Nat.reduceAdd, Nat.reduceSub, Nat.reduceMul, Int.reduceToNat, Int.reduceEq, Int.reduceLT, Int.reduceLE, g7]
        refine hK _ _ (hk' s bs' hx _ _ ⟨rfl, rfl, rfl, rfl, rt1.set, n1, n2, n3, n4, n5, n6⟩)
    · have ho : nR f2 k bs = .ok 0 bs := if_neg (by rw [hf]; simp)
      exact Goes.skip (hk' _ _ ho _ _ ⟨rfl, rfl, rfl, rfl, rt, n1, n2, n3, n4, n5, n6⟩)
  cases hf2 : f2 with
  | false =>
    rw [hf2] at g5
    refine Goes.region [2, 4, 5, 7] fun K hK => ?_; simp (maxSteps := 4000000) only [go_sem, ↓reduceIte, reduceCtorEq, Nat.reduceEqDiff, Nat.reduceBEq, Int.reduceBEq, Int.reduceBNe, Nat.reduceLT, Nat.reduceLeDiff, Nat.reduceAdd, Nat.reduceSub, Nat.reduceMul, Int.reduceToNat, Int.reduceEq, Int.reduceLT, Int.reduceLE, e2, e4, e5, e7, g5, g7]
    exact hK _ _ (Goes.condF rfl (oth (.inl hf2) _ rfl rfl rfl rfl))
  | true =>
    rw [hf2] at g5
    refine Goes.region [2, 4, 5, 7] fun K hK => ?_; simp (maxSteps := 4000000) only [go_sem, ↓reduceIte, reduceCtorEq, Nat.reduceEqDiff, Nat.reduceBEq, Int.reduceBEq, Int.reduceBNe, Nat.reduceLT, Nat.reduceLeDiff, Nat.reduceAdd, Nat.reduceSub, Nat.reduceMul, Int.reduceToNat, Int.reduceEq, Int.reduceLT, Int.reduceLE, e2, e4, e5, e7, g5, g7]
    refine hK _ _ (Goes.cond rfl (fun hk => ?_) (fun hk => ?_)); all_goals clear hK K
    · exact arm hf2 (by simpa using hk) _ rfl rfl rfl rfl
    · exact oth (.inr (by simpa using hk)) _ rfl rfl rfl rfl

end Go.Ab.S21

/- Layer 21: reader.act's names and tails. -/
namespace Go.Ab
open Go
/-- A row anywhere in the store, its cells told less of. -/
theorem Goes.row_at {P : Program} {N : Slots} {C : Ctx P N} {todo : List Item} {env : Env} {σ : Store} {b sz : Nat} {xs ys : List D} (hb : sget b σ = some (.arr sz xs)) (hx : ∀ w S vs, RepL w S (flat xs) vs → RepL w S (flat ys) vs) (hs : ∀ y ∈ ys, y.cells.length = sz)
    (h : Goes C todo env (sset b (.arr sz ys) σ)) : Goes C todo env σ := by
  intro a w S hd hsim
  refine h a w S hd ⟨hsim.env, fun c o hc => ?_, { hsim.fr with dom := fun c hc => hsim.fr.dom c ?_ }, hsim.size⟩
  · rw [sget_sset] at hc
    by_cases hcb : c = b
    · rw [if_pos hcb, hb] at hc
      simp only [Option.map_some, Option.some.injEq] at hc
      subst hc
      obtain ⟨h1, c', e, lo, hi, vals, h2, h3, h4, h5, h6⟩ := hsim.store c (.arr sz xs) (by rw [hcb]; exact hb)
      exact ⟨h1, c', e, lo, hi, vals, h2, hx _ _ _ h3, h4, hs, h6⟩
    · rw [if_neg hcb] at hc
      exact hsim.store c o hc
  · unfold sdom at *
    rw [sget_sset] at hc
    split at hc
    · rename_i hcb; rw [hcb, hb]; simp
    · exact hc
/-- A row that is handed out, of some other rows that do not know of it. -/
theorem Goes.pub_at {P : Program} {N : Slots} {C : Ctx P N} {todo : List Item} {env env' : Env} {σ σ' : Store} (b : Nat) {sz : Nat} {xs : List D} (hb : sget b σ = some (.arr sz xs)) (he : ∀ k, eget k env' = .any ∨ eget k env' = (eget k env).pub b sz xs)
    (hs : ∀ c o, sget c σ' = some o → ∃ o', c ≠ b ∧ sget c σ = some o' ∧ o = o'.pub b sz xs) (h : Goes C todo env' σ') : Goes C todo env σ := by
  refine Goes.publish b hb (Goes.le (env' := env') (σ' := σ') (fun k => ?_) (fun c o hc => ?_) h)
  · rw [eget_epub]; exact he k
  · obtain ⟨o', h1, h2, rfl⟩ := hs c o hc
    rw [sget_spub, if_neg h1, h2]; rfl
end Go.Ab
namespace Go.Ab.S21
open Go Go.Proofs

def rest25 (b2 b4 b5 b7 r : Nat) (f0 f1 f2 f3 f4 : Bool) (ys : List D) : Store :=
  [(b7, .arr 6 [.agg ys]), (b5, flD f0 f1 f2 f3 f4), (b4, .arr 6 [.agg [.v (.int .i64 0), .v (.int .i64 0), .v (.string ByteArray.empty), .v (.slice none 0 0), .v (.slice none 0 0), .v (.slice none 0 0)]]), (b2, .arr 1 [.agg [.ptr r 2 0 0]])]

/-- A round of reader.act's loops: a row of one's own beside the reader's. -/
structure Rnd (r b2 b4 b5 b7 : Nat) (f0 f1 f2 f3 f4 : Bool) (bs : List UInt8) (o : Option Nat) (xs ys : List D) (σ : Store) : Prop where
  rt : RT r (bs, false) (cellsOf o 1 xs ++ rest25 b2 b4 b5 b7 r f0 f1 f2 f3 f4 ys) σ
  gr : GrD o 1 xs (rest25 b2 b4 b5 b7 r f0 f1 f2 f3 f4 ys)
  n1 : b5 ≠ b7
  n2 : b4 ≠ b7
  n3 : b2 ≠ b7
  n4 : b4 ≠ b5
  n5 : b2 ≠ b5
  n6 : b2 ≠ b4

section
variable {r b2 b4 b5 b7 : Nat} {f0 f1 f2 f3 f4 : Bool} {bs : List UInt8} {o : Option Nat} {xs ys zs : List D} {σ : Store} (h : Rnd r b2 b4 b5 b7 f0 f1 f2 f3 f4 bs o xs ys σ)
include h
theorem Rnd.or : o ≠ some r := fun e => by
  have := h.rt.apart
  rw [e] at this; simp [cellsOf, sget] at this
theorem Rnd.rr : sget r (rest25 b2 b4 b5 b7 r f0 f1 f2 f3 f4 ys) = none := none_of_sle h.gr.sle h.rt.apart
theorem Rnd.keep {b : Nat} {x : AObj} (hb : sget b (rest25 b2 b4 b5 b7 r f0 f1 f2 f3 f4 ys) = some x) : sget b σ = some x ∧ o ≠ some b ∧ b ≠ r := by
  refine ⟨h.rt.keep (h.gr.keep hb), fun e => ?_, fun e => ?_⟩
  · have := h.gr.fresh b e; rw [hb] at this; cases this
  · subst e; have := h.rr; rw [hb] at this; cases this
theorem Rnd.oget : oget 1 o σ = some xs := by
  rw [h.rt.eq]
  cases o with
  | none => simp [Ab.oget, h.gr.zero rfl]
  | some b =>
    have hne : b ≠ r := fun e => h.or (by rw [e])
    show Ab.oget 1 (some b) ((r, _) :: (b, _) :: _) = _
    rw [oget_ne hne, oget_self]
theorem Rnd.sdel : sdelo o σ = rst r (bs, false) ++ rest25 b2 b4 b5 b7 r f0 f1 f2 f3 f4 ys := by
  rw [h.rt.eq]
  cases o with
  | none => rfl
  | some b =>
    have hne : b ≠ r := fun e => h.or (by rw [e])
    show Ab.sdel b ((r, _) :: (b, _) :: rest25 b2 b4 b5 b7 r f0 f1 f2 f3 f4 ys) = (r, _) :: _
    rw [sdel_ne hne, sdel_self, sdel_fresh (h.gr.fresh b rfl)]
    rfl
/-- The row behind an append, and the field that holds it. -/
theorem Rnd.next {ob : Option Nat} {x : D} (hz : ob = none → xs ++ [x] = []) (hf : Fresh ob (rst r (bs, false) ++ rest25 b2 b4 b5 b7 r f0 f1 f2 f3 f4 ys)) :
    (∀ b y, sget b (rest25 b2 b4 b5 b7 r f0 f1 f2 f3 f4 ys) = some y → sget b (cellsOf ob 1 (xs ++ [x]) ++ (rst r (bs, false) ++ rest25 b2 b4 b5 b7 r f0 f1 f2 f3 f4 ys)) = some y) ∧
    ∃ σ', SLe σ' (sset b7 (.arr 6 [.agg zs]) (cellsOf ob 1 (xs ++ [x]) ++ (rst r (bs, false) ++ rest25 b2 b4 b5 b7 r f0 f1 f2 f3 f4 ys))) ∧ Rnd r b2 b4 b5 b7 f0 f1 f2 f3 f4 bs ob (xs ++ [x]) zs σ' := by
  have hr := h.rr
  obtain ⟨b, rfl⟩ : ∃ b, ob = some b := by
    cases ob with
    | none => have := hz rfl; simp at this
    | some b => exact ⟨b, rfl⟩
  have hb := hf b rfl
  have hbr : b ≠ r := fun e => by rw [e] at hb; simp [rst, sget] at hb
  have hb2 : sget b (rest25 b2 b4 b5 b7 r f0 f1 f2 f3 f4 ys) = none := by
    rw [show rst r (bs, false) ++ rest25 b2 b4 b5 b7 r f0 f1 f2 f3 f4 ys = (r, .arr 2 [.agg [.slc (bs.map bD), .v (.bool false)]]) :: rest25 b2 b4 b5 b7 r f0 f1 f2 f3 f4 ys from rfl, sget_cons, if_neg hbr] at hb
    exact hb
  have hne : ∀ c y, sget c (rest25 b2 b4 b5 b7 r f0 f1 f2 f3 f4 ys) = some y → c ≠ b ∧ c ≠ r := fun c y hc => ⟨(fun e => by subst e; rw [hb2] at hc; cases hc), (fun e => by subst e; rw [hr] at hc; cases hc)⟩
  have key : ∀ c y, sget c (rest25 b2 b4 b5 b7 r f0 f1 f2 f3 f4 ys) = some y → sget c (cellsOf (some b) 1 (xs ++ [x]) ++ (rst r (bs, false) ++ rest25 b2 b4 b5 b7 r f0 f1 f2 f3 f4 ys)) = some y := fun c y hc => by
    obtain ⟨q1, q2⟩ := hne c y hc
    show sget c ((b, _) :: (r, _) :: rest25 b2 b4 b5 b7 r f0 f1 f2 f3 f4 ys) = _
    rw [sget_cons, if_neg q1, sget_cons, if_neg q2, hc]
  have g7 : sget b7 (rest25 b2 b4 b5 b7 r f0 f1 f2 f3 f4 ys) = some (.arr 6 [.agg ys]) := sget_self ..
  obtain ⟨q1, q2⟩ := hne b7 _ g7
  have hz7 : ∀ c y, sget c (rest25 b2 b4 b5 b7 r f0 f1 f2 f3 f4 zs) = some y → sget c (sset b7 (.arr 6 [.agg zs]) (cellsOf (some b) 1 (xs ++ [x]) ++ (rst r (bs, false) ++ rest25 b2 b4 b5 b7 r f0 f1 f2 f3 f4 ys))) = some y := fun c y hc => by
    rw [sget_sset]
    by_cases hc7 : c = b7
    · rw [if_pos hc7, key b7 _ g7]
      rw [hc7] at hc
      have : sget b7 (rest25 b2 b4 b5 b7 r f0 f1 f2 f3 f4 zs) = some (.arr 6 [.agg zs]) := sget_self ..
      rw [this] at hc; exact hc
    · rw [if_neg hc7]
      refine key c y ?_
      unfold rest25 at hc ⊢
      rw [sget_cons, if_neg hc7] at hc ⊢
      exact hc
  have hrz : ∀ c, sget c (rest25 b2 b4 b5 b7 r f0 f1 f2 f3 f4 ys) = none → sget c (rest25 b2 b4 b5 b7 r f0 f1 f2 f3 f4 zs) = none := fun c hc => by
    unfold rest25 at hc ⊢
    rw [sget_cons] at hc ⊢
    split at hc
    · cases hc
    · rename_i q; rw [if_neg q]; exact hc
  refine ⟨key, rst r (bs, false) ++ (cellsOf (some b) 1 (xs ++ [x]) ++ rest25 b2 b4 b5 b7 r f0 f1 f2 f3 f4 zs), SLe.append (SLe.cons ?_ (SLe.nil _)) (SLe.append (SLe.cons ?_ (SLe.nil _)) hz7), ⟨⟨rfl, ?_⟩, ⟨fun c hc => ?_, fun e => by cases e⟩, h.n1, h.n2, h.n3, h.n4, h.n5, h.n6⟩⟩
  · rw [sget_sset, if_neg (fun e => q2 e.symm)]
    show sget r ((b, _) :: (r, _) :: rest25 b2 b4 b5 b7 r f0 f1 f2 f3 f4 ys) = _
    rw [sget_cons, if_neg (fun e => hbr e.symm), sget_self]
  · rw [sget_sset, if_neg (fun e => q1 e.symm)]; simp [cellsOf, sget]
  · show sget r ((b, _) :: rest25 b2 b4 b5 b7 r f0 f1 f2 f3 f4 zs) = none
    rw [sget_cons, if_neg (fun e => hbr e.symm)]; exact hrz r hr
  · cases hc; exact hrz b hb2
end
end Go.Ab.S21

/- Layer 21: reader.act's names and tails, walked. -/
namespace Go.Ab.S21
open Go Go.Proofs

theorem numR_ok {bs bs' : List UInt8} {n : Int} (h : numR bs = .ok n bs') : 0 ≤ n ∧ n < 2147483648 ∧ bs'.length ≤ bs.length := by
  unfold numR at h
  split at h
  · cases h
  · split at h
    · cases h
    · cases h
      exact ⟨by omega, by omega, (takeS_len (bs, false) 4).1⟩
theorem textR_ok {bs bs' : List UInt8} {s : ByteArray} (h : textR bs = .ok s bs') : bs'.length ≤ bs.length := by
  unfold textR at h
  split at h
  · cases h
  · cases h
    exact Nat.le_trans (takeS_len (numS (bs, false) 2).2 _).1 (takeS_len (bs, false) 2).1

theorem many_step {α : Type} {g : List UInt8 → Res α} {N i : Nat} {bs bsi bs' : List UInt8} {li : List α} {a : α} (hi : i < N) (hm : manyR g N bs = (manyR g (N - i) bsi).bind fun l b => .ok (li ++ l) b) (hg : g bsi = .ok a bs') :
    manyR g N bs = (manyR g (N - (i + 1)) bs').bind fun l b => .ok (li ++ [a] ++ l) b := by
  rw [hm, show N - i = (N - (i + 1)) + 1 by omega, manyR, hg]
  simp only [Res.bind]
  cases manyR g (N - (i + 1)) bs' with
  | err c => rfl
  | ok l b => simp [Res.bind]
theorem many_err {α : Type} {g : List UInt8 → Res α} {N i : Nat} {bs bsi : List UInt8} {li : List α} {c : Int} (hi : i < N) (hm : manyR g N bs = (manyR g (N - i) bsi).bind fun l b => .ok (li ++ l) b) (hg : g bsi = .err c) :
    manyR g N bs = .err c := by
  rw [hm, show N - i = (N - (i + 1)) + 1 by omega, manyR, hg]; rfl

set_option maxHeartbeats 800000 in
theorem r_names {C : Ctx Try.prog ⟨81, []⟩} {r b2 b4 b5 b7 : Nat} {f0 f1 f2 f3 f4 : Bool} {bs : List UInt8} {y0 y1 y2 y3 y5 : D} {env : Env} {σ : Store} (hs : bs.length < 2 ^ 38) (h : Fr25 r b2 b4 b5 b7 f0 f1 f2 f3 f4 bs [y0, y1, y2, y3, .v (.slice none 0 0), y5] env σ)
    (hy : ∀ y ∈ [y0, y1, y2, y3, y5], ∀ b sz xs, D.pub b sz xs y = y) (hp : ∀ c, optR f3 (listR textR) [] bs = .err c → ∀ σ, Pan C (wrongP c) σ) (k' : List Item)
    (hk' : ∀ ns bs', optR f3 (listR textR) [] bs = .ok ns bs' → ∀ d env σ, FD d (.slc (ns.map sD)) → Fr25 r b2 b4 b5 b7 f0 f1 f2 f3 f4 bs' [y0, y1, y2, y3, d, y5] env σ → Goes C k' env σ) :
    Goes C (.code (bodyAt Try.f25 [1, 1, 1, 1, 1, 1, 1, 0]) :: k') env σ := by
  have g5 := h.g5
  unfold flD at g5
  have g2 := h.g2
  obtain ⟨e2, e4, e5, e7, rt, n1, n2, n3, n4, n5, n6⟩ := h
  refine Goes.seq ?_
  refine Goes.region [2, 4, 5, 7] fun K hK => ?_; simp (maxSteps := 4000000) only [go_sem, ↓reduceIte, reduceCtorEq, Nat.reduceEqDiff, Nat.reduceBEq, Int.reduceBEq, Int.reduceBNe, Nat.reduceLT, Nat.reduceLeDiff, Nat.reduceAdd, Nat.reduceSub, Nat.reduceMul, Int.reduceToNat, Int.reduceEq, Int.reduceLT, Int.reduceLE, e2, e4, e5, e7, g5]
  refine hK _ _ (Goes.cond rfl (fun hf => ?_) (fun hf => ?_)); all_goals clear hK K
  rotate_left
  · exact Goes.skip (hk' _ _ (if_neg (by rw [hf]; simp)) _ _ _ FD.nil ⟨rfl, rfl, rfl, rfl, rt, n1, n2, n3, n4, n5, n6⟩)
  have ho : optR f3 (listR textR) [] bs = listR textR bs := if_pos hf
  rw [ho] at hp hk'
  refine Goes.seq ?_
  refine Goes.region [2, 4, 5, 7] fun K hK => ?_; simp (maxSteps := 4000000) only [go_sem, ↓reduceIte, reduceCtorEq, Nat.reduceEqDiff, Nat.reduceBEq, Int.reduceBEq, Int.reduceBNe, Nat.reduceLT, Nat.reduceLeDiff, Nat.reduceAdd, Nat.reduceSub, Nat.reduceMul, Int.reduceToNat, Int.reduceEq, Int.reduceLT, Int.reduceLE, g2]
  refine ⟨_, Try.call41, (rt.res (rnum_calls r bs (by omega))).mono ?_⟩
  intro e σ1 hR
  unfold listR at hp hk'
  cases hx : numR bs with
  | err c =>
    rw [hx] at hR
    obtain ⟨rfl, rfl⟩ := hR
    simp only [go_sem, ↓reduceIte, reduceCtorEq, Nat.reduceEqDiff, Nat.reduceBEq, Int.reduceBEq, Int.reduceBNe, Nat.reduceLT, Nat.reduceLeDiff, Nat.reduceAdd, Nat.reduceSub, Nat.reduceMul, Int.reduceToNat, Int.reduceEq, Int.reduceLT, Int.reduceLE]
    exact hp c (by rw [hx]; rfl) _
  | ok n bs1 =>
  rw [hx] at hR hp hk'
  obtain ⟨rfl, rt1⟩ := hR
  obtain ⟨hn0, hn1, hl1⟩ := numR_ok hx
  simp only [Res.bind] at hp hk'
  obtain ⟨N, rfl⟩ : ∃ N : Nat, n = (N : Int) := ⟨n.toNat, by omega⟩
  simp only [Int.toNat_natCast] at hp hk'
  have g7 := rt1.keep (sget_self ..)
  simp only [go_sem, ↓reduceIte, reduceCtorEq, Nat.reduceEqDiff, Nat.reduceBEq, Int.reduceBEq, Int.reduceBNe, Nat.reduceLT, Nat.reduceLeDiff, Nat.reduceAdd, Nat.reduceSub, Nat.reduceMul, Int.reduceToNat, Int.reduceEq, Int.reduceLT, Int.reduceLE]
  refine hK _ _ ?_; clear hK K
  refine Goes.row_at (b := b7) (ys := [.agg [y0, y1, y2, y3, .own none 1 0, y5]]) g7 (fun w S vs h => ?_) (fun y hy => by simp at hy; rw [hy]; rfl) ?_
  · obtain ⟨a0, r0, rfl, q0, h⟩ := h.cons_inv
    obtain ⟨a1, r1, rfl, q1, h⟩ := h.cons_inv
    obtain ⟨a2, r2, rfl, q2, h⟩ := h.cons_inv
    obtain ⟨a3, r3, rfl, q3, h⟩ := h.cons_inv
    obtain ⟨a4, r4, rfl, q4, h⟩ := h.cons_inv
    exact .cons q0 (.cons q1 (.cons q2 (.cons q3 (.cons (DLe.nil_own 1 _ _ _ q4) h))))
  have hrnd : Rnd r b2 b4 b5 b7 f0 f1 f2 f3 f4 bs1 none [] [y0, y1, y2, y3, .own none 1 0, y5] (sset b7 (.arr 6 [.agg [y0, y1, y2, y3, .own none 1 0, y5]]) σ1) := ⟨rt1.set, GrD.nil _ _, n1, n2, n3, n4, n5, n6⟩
  generalize sset b7 (.arr 6 [.agg [y0, y1, y2, y3, .own none 1 0, y5]]) σ1 = σ2 at hrnd ⊢
  refine Goes.rebase [2, 4, 5, 7, 55, 56] ?_
  simp only [go_sem, ↓reduceIte, reduceCtorEq, Nat.reduceEqDiff, Nat.reduceBEq, Int.reduceBEq, Int.reduceBNe, Nat.reduceLT, Nat.reduceLeDiff, Nat.reduceAdd, Nat.reduceSub, Nat.reduceMul, Int.reduceToNat, Int.reduceEq, Int.reduceLT, Int.reduceLE]
  refine Goes.block ?_
  refine Goes.while (fun (i : Nat) env' σ' => i ≤ N ∧ ∃ o li bsi, li.length = i ∧ bsi.length ≤ bs1.length ∧ manyR textR N bs1 = (manyR textR (N - i) bsi).bind (fun l b => .ok (li ++ l) b) ∧
    env' = [(2, .ptr b2 1 0 0), (4, .ptr b4 6 0 0), (5, .ptr b5 5 0 0), (7, .ptr b7 6 0 0), (55, .v (.int .i64 (N : Int))), (56, .v (.int .i64 (i : Int)))] ∧ Rnd r b2 b4 b5 b7 f0 f1 f2 f3 f4 bsi o (li.map sD) [y0, y1, y2, y3, .own o 1 i, y5] σ') (fun i => N - i) 0
    ⟨by omega, none, [], bs1, rfl, Nat.le_refl _, by cases manyR textR N bs1 <;> rfl, rfl, hrnd⟩ ?_
  clear hrnd g7 rt1 rt g2 g5
  rintro i env' σ' ⟨hi, o, li, bsi, hli, hbl, hm, rfl, hrnd⟩ ih
  repeat' (first | refine Goes.seq ?_ | refine Goes.skip ?_ | refine Goes.inBlock ?_ | refine Goes.block ?_ | refine Goes.exit rfl ?_ | (refine Goes.region [2, 4, 5, 7, 55, 56] fun K hK => ?_; simp (maxSteps := 4000000) only [go_sem, ↓reduceIte, reduceCtorEq, Nat.reduceEqDiff, Nat.reduceBEq, Int.reduceBEq, Int.reduceBNe, Nat.reduceLT, Nat.reduceLeDiff, Nat.reduceAdd, Nat.reduceSub, Nat.reduceMul, Int.reduceToNat, Int.reduceEq, Int.reduceLT, Int.reduceLE]; refine hK _ _ ?_; clear hK K))
  refine Goes.cond rfl (fun hc => ?_) (fun hc => ?_)
  · have hlt : i < N := by simpa using hc
    have g7 := (hrnd.keep (sget_self ..)).1
    have g2 := (hrnd.keep (b := b2) (by unfold rest25; rw [sget_cons, if_neg n3, sget_cons, if_neg n5, sget_cons, if_neg n6, sget_self])).1
    refine Goes.skip ?_
    refine Goes.seq ?_
    refine Goes.block ?_
    refine Goes.draw [2, 4, 5, 7, 55, 56] [62] [b7, b2] [7] [(0, true), (1, true), (2, true), (3, false), (4, true), (5, false), (6, true), (7, false)] (by kernel_rfl) (by decide) (by kernel_rfl) fun K hK => ?_; simp (maxSteps := 4000000) only [go_sem, ↓reduceIte, reduceCtorEq, Nat.reduceEqDiff, Nat.reduceBEq, Int.reduceBEq, Int.reduceBNe, Nat.reduceLT, Nat.reduceLeDiff, Nat.reduceAdd, Nat.reduceSub, Nat.reduceMul, Int.reduceToNat, Int.reduceEq, Int.reduceLT, Int.reduceLE, g7, g2]
    refine ⟨_, Try.call38, (hrnd.rt.res (rtext_calls r bsi (by omega))).mono ?_⟩
    intro e σ2 hR
    cases hx2 : textR bsi with
    | err c =>
      rw [hx2] at hR
      obtain ⟨rfl, rfl⟩ := hR
      simp only [go_sem, ↓reduceIte, reduceCtorEq, Nat.reduceEqDiff, Nat.reduceBEq, Int.reduceBEq, Int.reduceBNe, Nat.reduceLT, Nat.reduceLeDiff, Nat.reduceAdd, Nat.reduceSub, Nat.reduceMul, Int.reduceToNat, Int.reduceEq, Int.reduceLT, Int.reduceLE]
      exact hp c (many_err hlt hm hx2) _
    | ok s bs' =>
    rw [hx2] at hR
    obtain ⟨rfl, rt2⟩ := hR
    have hrnd2 : Rnd r b2 b4 b5 b7 f0 f1 f2 f3 f4 bs' o (li.map sD) [y0, y1, y2, y3, .own o 1 i, y5] σ2 := ⟨rt2, hrnd.gr, n1, n2, n3, n4, n5, n6⟩
    have g72 := (hrnd2.keep (sget_self ..)).1
    have g22 := (hrnd2.keep (b := b2) (by unfold rest25; rw [sget_cons, if_neg n3, sget_cons, if_neg n5, sget_cons, if_neg n6, sget_self])).1
    have ho2 := hrnd2.oget
    have hd2 := hrnd2.sdel
    have hml : (li.map sD).length = i := by simp [hli]
    have htk : List.take i (li.map sD) = li.map sD := List.take_of_length_le (by omega)
    refine ⟨fun b hb => ?_, ?_⟩
    · rcases hb with rfl | rfl
      · rw [g72, g7]
      · rw [g22, g2]
    simp only [go_sem, ↓reduceIte, reduceCtorEq, Nat.reduceEqDiff, Nat.reduceBEq, Int.reduceBEq, Int.reduceBNe, Nat.reduceLT, Nat.reduceLeDiff, Nat.reduceAdd, Nat.reduceSub, Nat.reduceMul, Int.reduceToNat, Int.reduceEq, Int.reduceLT, Int.reduceLE, ho2, hd2, htk, hml]
    refine ⟨by decide, ⟨by omega, fun y hy => by rw [hy]; exact ⟨rfl, rfl⟩, by omega, by omega⟩, fun ob hz hf2 => ?_⟩
    obtain ⟨hkeep, σ3, hle3, hrnd3⟩ := hrnd2.next (zs := [y0, y1, y2, y3, .own ob 1 (i + 1), y5]) (x := sD s) hz hf2
    have hA7 := hkeep b7 _ (sget_self ..)
    have hA2 := hkeep b2 _ (by unfold rest25; rw [sget_cons, if_neg n3, sget_cons, if_neg n5, sget_cons, if_neg n6, sget_self])
    rw [sD] at hA7 hA2 hle3
    refine ⟨fun b hb => ?_, ?_⟩
    · rcases hb with rfl | rfl
      · rw [hA7, g72]
      · rw [hA2, g22]
    generalize hAA : cellsOf ob 1 (List.map sD li ++ [D.v (Value.string s)]) ++ (rst r (bs', false) ++ rest25 b2 b4 b5 b7 r f0 f1 f2 f3 f4 [y0, y1, y2, y3, D.own o 1 i, y5]) = A at *
    have hml2 : (List.map sD li ++ [D.v (Value.string s)]).length = i + 1 := by simp [hli]
    simp only [go_sem, ↓reduceIte, reduceCtorEq, Nat.reduceEqDiff, Nat.reduceBEq, Int.reduceBEq, Int.reduceBNe, Nat.reduceLT, Nat.reduceLeDiff, Nat.reduceAdd, Nat.reduceSub, Nat.reduceMul, Int.reduceToNat, Int.reduceEq, Int.reduceLT, Int.reduceLE, hA7, hml2]
    refine hK _ _ (Goes.le (ELe.refl _) hle3 ?_)
    repeat' (first | refine Goes.seq ?_ | refine Goes.skip ?_ | refine Goes.inBlock ?_ | refine Goes.block ?_ | refine Goes.exit rfl ?_ | (refine Goes.region [2, 4, 5, 7, 55, 56] fun K hK => ?_; simp (maxSteps := 4000000) only [go_sem, ↓reduceIte, reduceCtorEq, Nat.reduceEqDiff, Nat.reduceBEq, Int.reduceBEq, Int.reduceBNe, Nat.reduceLT, Nat.reduceLeDiff, Nat.reduceAdd, Nat.reduceSub, Nat.reduceMul, Int.reduceToNat, Int.reduceEq, Int.reduceLT, Int.reduceLE]; refine hK _ _ ?_; clear hK K))
    refine Goes.rebase [2, 4, 5, 7, 55, 56] ?_
    simp only [go_sem, ↓reduceIte, reduceCtorEq, Nat.reduceEqDiff, Nat.reduceBEq, Int.reduceBEq, Int.reduceBNe, Nat.reduceLT, Nat.reduceLeDiff, Nat.reduceAdd, Nat.reduceSub, Nat.reduceMul, Int.reduceToNat, Int.reduceEq, Int.reduceLT, Int.reduceLE]
    rw [wrap_succ i (by omega)]
    refine ih (i + 1) _ _ ⟨by omega, ob, li ++ [s], bs', by simp [hli], by have := textR_ok hx2; omega, many_step hlt hm hx2, rfl, ?_⟩ (by omega)
    rw [List.map_append]; exact hrnd3
  · have hge : ¬ i < N := by simpa using hc
    have : i = N := by omega
    subst this
    rw [Nat.sub_self, manyR] at hm
    simp only [Res.bind, List.append_nil] at hm
    rw [hm] at hk'
    repeat' (first | refine Goes.seq ?_ | refine Goes.skip ?_ | refine Goes.inBlock ?_ | refine Goes.block ?_ | refine Goes.exit rfl ?_ | (refine Goes.region [2, 4, 5, 7] fun K hK => ?_; simp (maxSteps := 4000000) only [go_sem, ↓reduceIte, reduceCtorEq, Nat.reduceEqDiff, Nat.reduceBEq, Int.reduceBEq, Int.reduceBNe, Nat.reduceLT, Nat.reduceLeDiff, Nat.reduceAdd, Nat.reduceSub, Nat.reduceMul, Int.reduceToNat, Int.reduceEq, Int.reduceLT, Int.reduceLE]; refine hK _ _ ?_; clear hK K))
    have g7 := (hrnd.keep (sget_self ..)).1
    cases o with
    | none =>
      have hli0 : li = [] := by simpa using hrnd.gr.zero rfl
      subst hli0
      refine hk' [] bsi rfl (.own none 1 0) _ _ ⟨DLe.own_slc _ _, rfl, rfl, rfl, fun _ _ _ => rfl⟩ ⟨rfl, rfl, rfl, rfl, ?_, n1, n2, n3, n4, n5, n6⟩
      have := hrnd.rt
      simp only [List.length_nil] at hli
      subst hli
      exact this
    | some b =>
      have hbr : b ≠ r := fun e => hrnd.or (by rw [e])
      have hgb : sget b σ' = some (.arr 1 (li.map sD)) := by
        rw [hrnd.rt.eq]
        show sget b ((r, _) :: (b, _) :: _) = _
        rw [sget_cons, if_neg hbr, sget_self]
      have hrr := hrnd.rr
      have hrt := hrnd.rt
      have hnb : ∀ c y, sget c (rest25 b2 b4 b5 b7 r f0 f1 f2 f3 f4 [y0, y1, y2, y3, .own (some b) 1 i, y5]) = some y → c ≠ b := fun c y hc e => by
        subst e; have := hrnd.gr.fresh c rfl; rw [hc] at this; cases this
      have hkp := fun c y hc => (hrnd.keep (b := c) (x := y) hc).1
      refine Goes.rebase [2, 4, 5, 7] ?_
      simp only [go_sem, ↓reduceIte, reduceCtorEq, Nat.reduceEqDiff, Nat.reduceBEq, Int.reduceBEq, Int.reduceBNe, Nat.reduceLT, Nat.reduceLeDiff, Nat.reduceAdd, Nat.reduceSub, Nat.reduceMul, Int.reduceToNat, Int.reduceEq, Int.reduceLT, Int.reduceLE]
      refine Goes.pub_at b (env' := [(2, .ptr b2 1 0 0), (4, .ptr b4 6 0 0), (5, .ptr b5 5 0 0), (7, .ptr b7 6 0 0)]) (σ' := rst r (bsi, false) ++ rest25 b2 b4 b5 b7 r f0 f1 f2 f3 f4 [y0, y1, y2, y3, .slc (li.map sD), y5]) hgb (fun k => ?_) (fun c x hcx => ?_) ?_
      · simp only [eget]
        repeat' split
        all_goals first | exact .inr rfl | exact .inl rfl | contradiction
      · have hcr : c = r ∨ c ≠ r := Decidable.em _
        rcases hcr with rfl | hcr
        · refine ⟨_, fun e => hbr e.symm, by rw [hrt.eq]; exact sget_self .., ?_⟩
          rw [show rst c (bsi, false) ++ rest25 b2 b4 b5 b7 c f0 f1 f2 f3 f4 [y0, y1, y2, y3, .slc (li.map sD), y5] = (c, .arr 2 [.agg [.slc (bsi.map bD), .v (.bool false)]]) :: rest25 b2 b4 b5 b7 c f0 f1 f2 f3 f4 [y0, y1, y2, y3, .slc (li.map sD), y5] from rfl, sget_self] at hcx
          cases hcx; rfl
        · rw [show rst r (bsi, false) ++ rest25 b2 b4 b5 b7 r f0 f1 f2 f3 f4 [y0, y1, y2, y3, .slc (li.map sD), y5] = (r, .arr 2 [.agg [.slc (bsi.map bD), .v (.bool false)]]) :: rest25 b2 b4 b5 b7 r f0 f1 f2 f3 f4 [y0, y1, y2, y3, .slc (li.map sD), y5] from rfl, sget_cons, if_neg hcr] at hcx
          by_cases hc7 : c = b7
          · subst hc7
            rw [show sget c (rest25 b2 b4 b5 c r f0 f1 f2 f3 f4 [y0, y1, y2, y3, .slc (li.map sD), y5]) = some (.arr 6 [.agg [y0, y1, y2, y3, .slc (li.map sD), y5]]) from sget_self ..] at hcx
            cases hcx
            refine ⟨_, hnb c _ (sget_self ..), hkp c _ (sget_self ..), ?_⟩
            have p0 := hy y0 (by simp); have p1 := hy y1 (by simp); have p2 := hy y2 (by simp); have p3 := hy y3 (by simp); have p5 := hy y5 (by simp)
            simp only [AObj.pub, List.map_cons, List.map_nil, D.pub, pubs, p0, p1, p2, p3, p5, true_and]
            rw [if_pos (by simp [hli]), List.take_of_length_le (by simp [hli])]
          · have hcx2 : sget c (rest25 b2 b4 b5 b7 r f0 f1 f2 f3 f4 [y0, y1, y2, y3, .own (some b) 1 i, y5]) = some x := by
              unfold rest25 at hcx ⊢
              rw [sget_cons, if_neg hc7] at hcx ⊢
              exact hcx
            refine ⟨x, hnb c _ hcx2, hkp c _ hcx2, ?_⟩
            unfold rest25 flD at hcx2
            rw [sget_cons, if_neg hc7, sget_cons] at hcx2
            split at hcx2
            · cases hcx2; rfl
            · rw [sget_cons] at hcx2
              split at hcx2
              · cases hcx2; rfl
              · rw [sget_cons] at hcx2
                split at hcx2
                · cases hcx2; rfl
                · simp at hcx2
      · refine hk' li bsi rfl (.slc (li.map sD)) _ _ (FD.slc _) ⟨rfl, rfl, rfl, rfl, ⟨rfl, ?_⟩, n1, n2, n3, n4, n5, n6⟩
        unfold rest25 at hrr
        rw [sget_cons] at hrr ⊢
        split at hrr
        · cases hrr
        · rename_i q; rw [if_neg q]; exact hrr
set_option maxHeartbeats 800000 in
theorem r_tails {C : Ctx Try.prog ⟨81, []⟩} {r b2 b4 b5 b7 : Nat} {f0 f1 f2 f3 f4 : Bool} {bs : List UInt8} {y0 y1 y2 y3 y4 : D} {env : Env} {σ : Store} (hs : bs.length < 2 ^ 38) (h : Fr25 r b2 b4 b5 b7 f0 f1 f2 f3 f4 bs [y0, y1, y2, y3, y4, .v (.slice none 0 0)] env σ)
    (hy : ∀ y ∈ [y0, y1, y2, y3, y4], ∀ b sz xs, D.pub b sz xs y = y) (hp : ∀ c, optR f4 (listR numR) [] bs = .err c → ∀ σ, Pan C (wrongP c) σ) (k' : List Item)
    (hk' : ∀ ns bs', optR f4 (listR numR) [] bs = .ok ns bs' → ∀ d env σ, FD d (.slc (ns.map iD)) → Fr25 r b2 b4 b5 b7 f0 f1 f2 f3 f4 bs' [y0, y1, y2, y3, y4, d] env σ → Goes C k' env σ) :
    Goes C (.code (bodyAt Try.f25 [1, 1, 1, 1, 1, 1, 1, 1, 0]) :: k') env σ := by
  have g5 := h.g5
  unfold flD at g5
  have g2 := h.g2
  obtain ⟨e2, e4, e5, e7, rt, n1, n2, n3, n4, n5, n6⟩ := h
  refine Goes.seq ?_
  refine Goes.region [2, 4, 5, 7] fun K hK => ?_; simp (maxSteps := 4000000) only [go_sem, ↓reduceIte, reduceCtorEq, Nat.reduceEqDiff, Nat.reduceBEq, Int.reduceBEq, Int.reduceBNe, Nat.reduceLT, Nat.reduceLeDiff, Nat.reduceAdd, Nat.reduceSub, Nat.reduceMul, Int.reduceToNat, Int.reduceEq, Int.reduceLT, Int.reduceLE, e2, e4, e5, e7, g5]
  refine hK _ _ (Goes.cond rfl (fun hf => ?_) (fun hf => ?_)); all_goals clear hK K
  rotate_left
  · exact Goes.skip (hk' _ _ (if_neg (by rw [hf]; simp)) _ _ _ FD.nil ⟨rfl, rfl, rfl, rfl, rt, n1, n2, n3, n4, n5, n6⟩)
  have ho : optR f4 (listR numR) [] bs = listR numR bs := if_pos hf
  rw [ho] at hp hk'
  refine Goes.seq ?_
  refine Goes.region [2, 4, 5, 7] fun K hK => ?_; simp (maxSteps := 4000000) only [go_sem, ↓reduceIte, reduceCtorEq, Nat.reduceEqDiff, Nat.reduceBEq, Int.reduceBEq, Int.reduceBNe, Nat.reduceLT, Nat.reduceLeDiff, Nat.reduceAdd, Nat.reduceSub, Nat.reduceMul, Int.reduceToNat, Int.reduceEq, Int.reduceLT, Int.reduceLE, g2]
  refine ⟨_, Try.call41, (rt.res (rnum_calls r bs (by omega))).mono ?_⟩
  intro e σ1 hR
  unfold listR at hp hk'
  cases hx : numR bs with
  | err c =>
    rw [hx] at hR
    obtain ⟨rfl, rfl⟩ := hR
    simp only [go_sem, ↓reduceIte, reduceCtorEq, Nat.reduceEqDiff, Nat.reduceBEq, Int.reduceBEq, Int.reduceBNe, Nat.reduceLT, Nat.reduceLeDiff, Nat.reduceAdd, Nat.reduceSub, Nat.reduceMul, Int.reduceToNat, Int.reduceEq, Int.reduceLT, Int.reduceLE]
    exact hp c (by rw [hx]; rfl) _
  | ok n bs1 =>
  rw [hx] at hR hp hk'
  obtain ⟨rfl, rt1⟩ := hR
  obtain ⟨hn0, hn1, hl1⟩ := numR_ok hx
  simp only [Res.bind] at hp hk'
  obtain ⟨N, rfl⟩ : ∃ N : Nat, n = (N : Int) := ⟨n.toNat, by omega⟩
  simp only [Int.toNat_natCast] at hp hk'
  have g7 := rt1.keep (sget_self ..)
  simp only [go_sem, ↓reduceIte, reduceCtorEq, Nat.reduceEqDiff, Nat.reduceBEq, Int.reduceBEq, Int.reduceBNe, Nat.reduceLT, Nat.reduceLeDiff, Nat.reduceAdd, Nat.reduceSub, Nat.reduceMul, Int.reduceToNat, Int.reduceEq, Int.reduceLT, Int.reduceLE]
  refine hK _ _ ?_; clear hK K
  refine Goes.row_at (b := b7) (ys := [.agg [y0, y1, y2, y3, y4, .own none 1 0]]) g7 (fun w S vs h => ?_) (fun y hy => by simp at hy; rw [hy]; rfl) ?_
  · obtain ⟨a0, r0, rfl, q0, h⟩ := h.cons_inv
    obtain ⟨a1, r1, rfl, q1, h⟩ := h.cons_inv
    obtain ⟨a2, r2, rfl, q2, h⟩ := h.cons_inv
    obtain ⟨a3, r3, rfl, q3, h⟩ := h.cons_inv
    obtain ⟨a4, r4, rfl, q4, h⟩ := h.cons_inv
    obtain ⟨a5, r5, rfl, q5, h⟩ := h.cons_inv
    exact .cons q0 (.cons q1 (.cons q2 (.cons q3 (.cons q4 (.cons (DLe.nil_own 1 _ _ _ q5) h)))))
  have hrnd : Rnd r b2 b4 b5 b7 f0 f1 f2 f3 f4 bs1 none [] [y0, y1, y2, y3, y4, .own none 1 0] (sset b7 (.arr 6 [.agg [y0, y1, y2, y3, y4, .own none 1 0]]) σ1) := ⟨rt1.set, GrD.nil _ _, n1, n2, n3, n4, n5, n6⟩
  generalize sset b7 (.arr 6 [.agg [y0, y1, y2, y3, y4, .own none 1 0]]) σ1 = σ2 at hrnd ⊢
  refine Goes.rebase [2, 4, 5, 7, 69, 70] ?_
  simp only [go_sem, ↓reduceIte, reduceCtorEq, Nat.reduceEqDiff, Nat.reduceBEq, Int.reduceBEq, Int.reduceBNe, Nat.reduceLT, Nat.reduceLeDiff, Nat.reduceAdd, Nat.reduceSub, Nat.reduceMul, Int.reduceToNat, Int.reduceEq, Int.reduceLT, Int.reduceLE]
  refine Goes.block ?_
  refine Goes.while (fun (i : Nat) env' σ' => i ≤ N ∧ ∃ o li bsi, li.length = i ∧ bsi.length ≤ bs1.length ∧ manyR numR N bs1 = (manyR numR (N - i) bsi).bind (fun l b => .ok (li ++ l) b) ∧
    env' = [(2, .ptr b2 1 0 0), (4, .ptr b4 6 0 0), (5, .ptr b5 5 0 0), (7, .ptr b7 6 0 0), (69, .v (.int .i64 (N : Int))), (70, .v (.int .i64 (i : Int)))] ∧ Rnd r b2 b4 b5 b7 f0 f1 f2 f3 f4 bsi o (li.map iD) [y0, y1, y2, y3, y4, .own o 1 i] σ') (fun i => N - i) 0
    ⟨by omega, none, [], bs1, rfl, Nat.le_refl _, by cases manyR numR N bs1 <;> rfl, rfl, hrnd⟩ ?_
  clear hrnd g7 rt1 rt g2 g5
  rintro i env' σ' ⟨hi, o, li, bsi, hli, hbl, hm, rfl, hrnd⟩ ih
  repeat' (first | refine Goes.seq ?_ | refine Goes.skip ?_ | refine Goes.inBlock ?_ | refine Goes.block ?_ | refine Goes.exit rfl ?_ | (refine Goes.region [2, 4, 5, 7, 69, 70] fun K hK => ?_; simp (maxSteps := 4000000) only [go_sem, ↓reduceIte, reduceCtorEq, Nat.reduceEqDiff, Nat.reduceBEq, Int.reduceBEq, Int.reduceBNe, Nat.reduceLT, Nat.reduceLeDiff, Nat.reduceAdd, Nat.reduceSub, Nat.reduceMul, Int.reduceToNat, Int.reduceEq, Int.reduceLT, Int.reduceLE]; refine hK _ _ ?_; clear hK K))
  refine Goes.cond rfl (fun hc => ?_) (fun hc => ?_)
  · have hlt : i < N := by simpa using hc
    have g7 := (hrnd.keep (sget_self ..)).1
    have g2 := (hrnd.keep (b := b2) (by unfold rest25; rw [sget_cons, if_neg n3, sget_cons, if_neg n5, sget_cons, if_neg n6, sget_self])).1
    refine Goes.skip ?_
    refine Goes.seq ?_
    refine Goes.block ?_
    refine Goes.draw [2, 4, 5, 7, 69, 70] [76] [b7, b2] [7] [(0, true), (1, true), (2, true), (3, false), (4, true), (5, false), (6, true), (7, false)] (by kernel_rfl) (by decide) (by kernel_rfl) fun K hK => ?_; simp (maxSteps := 4000000) only [go_sem, ↓reduceIte, reduceCtorEq, Nat.reduceEqDiff, Nat.reduceBEq, Int.reduceBEq, Int.reduceBNe, Nat.reduceLT, Nat.reduceLeDiff, Nat.reduceAdd, Nat.reduceSub, Nat.reduceMul, Int.reduceToNat, Int.reduceEq, Int.reduceLT, Int.reduceLE, g7, g2]
    refine ⟨_, Try.call41, (hrnd.rt.res (rnum_calls r bsi (by omega))).mono ?_⟩
    intro e σ2 hR
    cases hx2 : numR bsi with
    | err c =>
      rw [hx2] at hR
      obtain ⟨rfl, rfl⟩ := hR
      simp only [go_sem, ↓reduceIte, reduceCtorEq, Nat.reduceEqDiff, Nat.reduceBEq, Int.reduceBEq, Int.reduceBNe, Nat.reduceLT, Nat.reduceLeDiff, Nat.reduceAdd, Nat.reduceSub, Nat.reduceMul, Int.reduceToNat, Int.reduceEq, Int.reduceLT, Int.reduceLE]
      exact hp c (many_err hlt hm hx2) _
    | ok s bs' =>
    rw [hx2] at hR
    obtain ⟨rfl, rt2⟩ := hR
    have hrnd2 : Rnd r b2 b4 b5 b7 f0 f1 f2 f3 f4 bs' o (li.map iD) [y0, y1, y2, y3, y4, .own o 1 i] σ2 := ⟨rt2, hrnd.gr, n1, n2, n3, n4, n5, n6⟩
    have g72 := (hrnd2.keep (sget_self ..)).1
    have g22 := (hrnd2.keep (b := b2) (by unfold rest25; rw [sget_cons, if_neg n3, sget_cons, if_neg n5, sget_cons, if_neg n6, sget_self])).1
    have ho2 := hrnd2.oget
    have hd2 := hrnd2.sdel
    have hml : (li.map iD).length = i := by simp [hli]
    have htk : List.take i (li.map iD) = li.map iD := List.take_of_length_le (by omega)
    refine ⟨fun b hb => ?_, ?_⟩
    · rcases hb with rfl | rfl
      · rw [g72, g7]
      · rw [g22, g2]
    simp only [go_sem, ↓reduceIte, reduceCtorEq, Nat.reduceEqDiff, Nat.reduceBEq, Int.reduceBEq, Int.reduceBNe, Nat.reduceLT, Nat.reduceLeDiff, Nat.reduceAdd, Nat.reduceSub, Nat.reduceMul, Int.reduceToNat, Int.reduceEq, Int.reduceLT, Int.reduceLE, ho2, hd2, htk, hml]
    refine ⟨by decide, ⟨by omega, fun y hy => by rw [hy]; exact ⟨rfl, rfl⟩, by omega, by omega⟩, fun ob hz hf2 => ?_⟩
    obtain ⟨hkeep, σ3, hle3, hrnd3⟩ := hrnd2.next (zs := [y0, y1, y2, y3, y4, .own ob 1 (i + 1)]) (x := iD s) hz hf2
    have hA7 := hkeep b7 _ (sget_self ..)
    have hA2 := hkeep b2 _ (by unfold rest25; rw [sget_cons, if_neg n3, sget_cons, if_neg n5, sget_cons, if_neg n6, sget_self])
    rw [iD] at hA7 hA2 hle3
    refine ⟨fun b hb => ?_, ?_⟩
    · rcases hb with rfl | rfl
      · rw [hA7, g72]
      · rw [hA2, g22]
    generalize hAA : cellsOf ob 1 (List.map iD li ++ [D.v (Value.int IntKind.i64 s)]) ++ (rst r (bs', false) ++ rest25 b2 b4 b5 b7 r f0 f1 f2 f3 f4 [y0, y1, y2, y3, y4, D.own o 1 i]) = A at *
    have hml2 : (List.map iD li ++ [D.v (Value.int IntKind.i64 s)]).length = i + 1 := by simp [hli]
    simp only [go_sem, ↓reduceIte, reduceCtorEq, Nat.reduceEqDiff, Nat.reduceBEq, Int.reduceBEq, Int.reduceBNe, Nat.reduceLT, Nat.reduceLeDiff, Nat.reduceAdd, Nat.reduceSub, Nat.reduceMul, Int.reduceToNat, Int.reduceEq, Int.reduceLT, Int.reduceLE, hA7, hml2]
    refine hK _ _ (Goes.le (ELe.refl _) hle3 ?_)
    repeat' (first | refine Goes.seq ?_ | refine Goes.skip ?_ | refine Goes.inBlock ?_ | refine Goes.block ?_ | refine Goes.exit rfl ?_ | (refine Goes.region [2, 4, 5, 7, 69, 70] fun K hK => ?_; simp (maxSteps := 4000000) only [go_sem, ↓reduceIte, reduceCtorEq, Nat.reduceEqDiff, Nat.reduceBEq, Int.reduceBEq, Int.reduceBNe, Nat.reduceLT, Nat.reduceLeDiff, Nat.reduceAdd, Nat.reduceSub, Nat.reduceMul, Int.reduceToNat, Int.reduceEq, Int.reduceLT, Int.reduceLE]; refine hK _ _ ?_; clear hK K))
    refine Goes.rebase [2, 4, 5, 7, 69, 70] ?_
    simp only [go_sem, ↓reduceIte, reduceCtorEq, Nat.reduceEqDiff, Nat.reduceBEq, Int.reduceBEq, Int.reduceBNe, Nat.reduceLT, Nat.reduceLeDiff, Nat.reduceAdd, Nat.reduceSub, Nat.reduceMul, Int.reduceToNat, Int.reduceEq, Int.reduceLT, Int.reduceLE]
    rw [wrap_succ i (by omega)]
    refine ih (i + 1) _ _ ⟨by omega, ob, li ++ [s], bs', by simp [hli], by have := (numR_ok hx2).2.2; omega, many_step hlt hm hx2, rfl, ?_⟩ (by omega)
    rw [List.map_append]; exact hrnd3
  · have hge : ¬ i < N := by simpa using hc
    have : i = N := by omega
    subst this
    rw [Nat.sub_self, manyR] at hm
    simp only [Res.bind, List.append_nil] at hm
    rw [hm] at hk'
    repeat' (first | refine Goes.seq ?_ | refine Goes.skip ?_ | refine Goes.inBlock ?_ | refine Goes.block ?_ | refine Goes.exit rfl ?_ | (refine Goes.region [2, 4, 5, 7] fun K hK => ?_; simp (maxSteps := 4000000) only [go_sem, ↓reduceIte, reduceCtorEq, Nat.reduceEqDiff, Nat.reduceBEq, Int.reduceBEq, Int.reduceBNe, Nat.reduceLT, Nat.reduceLeDiff, Nat.reduceAdd, Nat.reduceSub, Nat.reduceMul, Int.reduceToNat, Int.reduceEq, Int.reduceLT, Int.reduceLE]; refine hK _ _ ?_; clear hK K))
    have g7 := (hrnd.keep (sget_self ..)).1
    cases o with
    | none =>
      have hli0 : li = [] := by simpa using hrnd.gr.zero rfl
      subst hli0
      refine hk' [] bsi rfl (.own none 1 0) _ _ ⟨DLe.own_slc _ _, rfl, rfl, rfl, fun _ _ _ => rfl⟩ ⟨rfl, rfl, rfl, rfl, ?_, n1, n2, n3, n4, n5, n6⟩
      have := hrnd.rt
      simp only [List.length_nil] at hli
      subst hli
      exact this
    | some b =>
      have hbr : b ≠ r := fun e => hrnd.or (by rw [e])
      have hgb : sget b σ' = some (.arr 1 (li.map iD)) := by
        rw [hrnd.rt.eq]
        show sget b ((r, _) :: (b, _) :: _) = _
        rw [sget_cons, if_neg hbr, sget_self]
      have hrr := hrnd.rr
      have hrt := hrnd.rt
      have hnb : ∀ c y, sget c (rest25 b2 b4 b5 b7 r f0 f1 f2 f3 f4 [y0, y1, y2, y3, y4, .own (some b) 1 i]) = some y → c ≠ b := fun c y hc e => by
        subst e; have := hrnd.gr.fresh c rfl; rw [hc] at this; cases this
      have hkp := fun c y hc => (hrnd.keep (b := c) (x := y) hc).1
      refine Goes.rebase [2, 4, 5, 7] ?_
      simp only [go_sem, ↓reduceIte, reduceCtorEq, Nat.reduceEqDiff, Nat.reduceBEq, Int.reduceBEq, Int.reduceBNe, Nat.reduceLT, Nat.reduceLeDiff, Nat.reduceAdd, Nat.reduceSub, Nat.reduceMul, Int.reduceToNat, Int.reduceEq, Int.reduceLT, Int.reduceLE]
      refine Goes.pub_at b (env' := [(2, .ptr b2 1 0 0), (4, .ptr b4 6 0 0), (5, .ptr b5 5 0 0), (7, .ptr b7 6 0 0)]) (σ' := rst r (bsi, false) ++ rest25 b2 b4 b5 b7 r f0 f1 f2 f3 f4 [y0, y1, y2, y3, y4, .slc (li.map iD)]) hgb (fun k => ?_) (fun c x hcx => ?_) ?_
      · simp only [eget]
        repeat' split
        all_goals first | exact .inr rfl | exact .inl rfl | contradiction
      · have hcr : c = r ∨ c ≠ r := Decidable.em _
        rcases hcr with rfl | hcr
        · refine ⟨_, fun e => hbr e.symm, by rw [hrt.eq]; exact sget_self .., ?_⟩
          rw [show rst c (bsi, false) ++ rest25 b2 b4 b5 b7 c f0 f1 f2 f3 f4 [y0, y1, y2, y3, y4, .slc (li.map iD)] = (c, .arr 2 [.agg [.slc (bsi.map bD), .v (.bool false)]]) :: rest25 b2 b4 b5 b7 c f0 f1 f2 f3 f4 [y0, y1, y2, y3, y4, .slc (li.map iD)] from rfl, sget_self] at hcx
          cases hcx; rfl
        · rw [show rst r (bsi, false) ++ rest25 b2 b4 b5 b7 r f0 f1 f2 f3 f4 [y0, y1, y2, y3, y4, .slc (li.map iD)] = (r, .arr 2 [.agg [.slc (bsi.map bD), .v (.bool false)]]) :: rest25 b2 b4 b5 b7 r f0 f1 f2 f3 f4 [y0, y1, y2, y3, y4, .slc (li.map iD)] from rfl, sget_cons, if_neg hcr] at hcx
          by_cases hc7 : c = b7
          · subst hc7
            rw [show sget c (rest25 b2 b4 b5 c r f0 f1 f2 f3 f4 [y0, y1, y2, y3, y4, .slc (li.map iD)]) = some (.arr 6 [.agg [y0, y1, y2, y3, y4, .slc (li.map iD)]]) from sget_self ..] at hcx
            cases hcx
            refine ⟨_, hnb c _ (sget_self ..), hkp c _ (sget_self ..), ?_⟩
            have p0 := hy y0 (by simp); have p1 := hy y1 (by simp); have p2 := hy y2 (by simp); have p3 := hy y3 (by simp); have p5 := hy y4 (by simp)
            simp only [AObj.pub, List.map_cons, List.map_nil, D.pub, pubs, p0, p1, p2, p3, p5, true_and]
            rw [if_pos (by simp [hli]), List.take_of_length_le (by simp [hli])]
          · have hcx2 : sget c (rest25 b2 b4 b5 b7 r f0 f1 f2 f3 f4 [y0, y1, y2, y3, y4, .own (some b) 1 i]) = some x := by
              unfold rest25 at hcx ⊢
              rw [sget_cons, if_neg hc7] at hcx ⊢
              exact hcx
            refine ⟨x, hnb c _ hcx2, hkp c _ hcx2, ?_⟩
            unfold rest25 flD at hcx2
            rw [sget_cons, if_neg hc7, sget_cons] at hcx2
            split at hcx2
            · cases hcx2; rfl
            · rw [sget_cons] at hcx2
              split at hcx2
              · cases hcx2; rfl
              · rw [sget_cons] at hcx2
                split at hcx2
                · cases hcx2; rfl
                · simp at hcx2
      · refine hk' li bsi rfl (.slc (li.map iD)) _ _ (FD.slc _) ⟨rfl, rfl, rfl, rfl, ⟨rfl, ?_⟩, n1, n2, n3, n4, n5, n6⟩
        unfold rest25 at hrr
        rw [sget_cons] at hrr ⊢
        split at hrr
        · cases hrr
        · rename_i q; rw [if_neg q]; exact hrr
end Go.Ab.S21

/- Layer 21: reader.act, whole. -/
namespace Go.Ab.S21
open Go Go.Proofs

theorem optR_len {α : Type} {f : Bool} {g : List UInt8 → Res α} {a0 a : α} {bs bs' : List UInt8} (hg : ∀ a bs', g bs = .ok a bs' → bs'.length ≤ bs.length) (h : optR f g a0 bs = .ok a bs') : bs'.length ≤ bs.length := by
  unfold optR at h
  split at h
  · exact hg _ _ h
  · cases h; exact Nat.le_refl _
theorem nR_len {f : Bool} {k n : Int} {bs bs' : List UInt8} (h : nR f k bs = .ok n bs') : bs'.length ≤ bs.length := by
  unfold nR at h
  split at h
  · split at h
    · unfold armR at h
      split at h
      · cases h
      · cases h; exact (takeS_len (bs, false) 4).1
    · exact (numR_ok h).2.2
  · cases h; exact Nat.le_refl _
theorem many_len {α : Type} {g : List UInt8 → Res α} (hg : ∀ a bs bs', g bs = .ok a bs' → bs'.length ≤ bs.length) : ∀ (n : Nat) {bs bs' : List UInt8} {l : List α}, manyR g n bs = .ok l bs' → bs'.length ≤ bs.length
  | 0, bs, bs', l, h => by cases h; exact Nat.le_refl _
  | n + 1, bs, bs', l, h => by
    unfold manyR at h
    cases hx : g bs with
    | err c => rw [hx] at h; cases h
    | ok a b1 =>
      rw [hx] at h
      simp only [Res.bind] at h
      cases hy : manyR g n b1 with
      | err c => rw [hy] at h; cases h
      | ok l2 b2 =>
        rw [hy] at h
        cases h
        exact Nat.le_trans (many_len hg n hy) (hg _ _ _ hx)
theorem listR_len {α : Type} {g : List UInt8 → Res α} (hg : ∀ a bs bs', g bs = .ok a bs' → bs'.length ≤ bs.length) {bs bs' : List UInt8} {l : List α} (h : listR g bs = .ok l bs') : bs'.length ≤ bs.length := by
  unfold listR at h
  cases hx : numR bs with
  | err c => rw [hx] at h; cases h
  | ok n b1 =>
    rw [hx] at h
    exact Nat.le_trans (many_len hg _ h) (numR_ok hx).2.2

theorem ract_calls (r : Nat) (k : Int) (bs : List UInt8) (hk0 : 0 ≤ k) (hk1 : k < 256) (hs : bs.length < 2 ^ 38) :
    ACalls Try.prog 25 [.agg [.ptr r 2 0 0], .v (.int .u8 k)] (rst r (bs, false)) (REnd XAct.d r [] (actR k bs)) := by
  refine ACalls.forget (R := fun e σ' => match actR k bs with
    | .err c => e = .panic (wrongP c) ∧ σ' = []
    | .ok x bs' => e = .ret x.d ∧ ∃ ρ, RT r (bs', false) ρ σ') ?_ fun e σ' hR => ?_
  rotate_left
  · cases hx : actR k bs with
    | err c => rw [hx] at hR; exact ⟨σ', SLe.refl _, hR⟩
    | ok x bs' =>
      rw [hx] at hR
      obtain ⟨rfl, ρ, hrt⟩ := hR
      exact ⟨rst r (bs', false) ++ [], by rw [hrt.eq, List.append_nil]; exact SLe.append_left _ _, rfl, rfl, rfl⟩
  refine ACalls.ret_le (R := fun e σ' => match actR k bs with
    | .err c => e = .panic (wrongP c) ∧ σ' = []
    | .ok x bs' => ∃ d3 d4 d5, FD d3 (.slc (x.by_.map bD)) ∧ FD d4 (.slc (x.names.map sD)) ∧ FD d5 (.slc (x.tails.map iD)) ∧ e = .ret (.agg [.v (.int .i64 x.kind), .v (.int .i64 x.num), .v (.string x.name), d3, d4, d5]) ∧ ∃ ρ, RT r (bs', false) ρ σ') ?_ fun e σ' hR => ?_
  rotate_left
  · cases hx : actR k bs with
    | err c => rw [hx] at hR; exact .inl hR
    | ok x bs' =>
      rw [hx] at hR
      obtain ⟨d3, d4, d5, h3, h4, h5, rfl, hrt⟩ := hR
      refine .inr ⟨_, _, rfl, fun w S v h => ?_, rfl, hrt⟩
      cases h with
      | agg h =>
        obtain ⟨a0, r0, rfl, q0, h⟩ := h.cons_inv
        obtain ⟨a1, r1, rfl, q1, h⟩ := h.cons_inv
        obtain ⟨a2, r2, rfl, q2, h⟩ := h.cons_inv
        obtain ⟨a3, r3, rfl, q3, h⟩ := h.cons_inv
        obtain ⟨a4, r4, rfl, q4, h⟩ := h.cons_inv
        obtain ⟨a5, r5, rfl, q5, h⟩ := h.cons_inv
        exact .agg (.cons q0 (.cons q1 (.cons q2 (.cons (h3.le _ _ _ q3) (.cons (h4.le _ _ _ q4) (.cons (h5.le _ _ _ q5) h))))))
  refine ACalls.of_body Try.func25 rfl Try.ntmps25 (by simp) fun C hC => ?_
  obtain ⟨f0, f1, f2, f3, f4, kn, hF, _⟩ := fields_cases k
  have hw : IntKind.i64.wrap k = k := wrap_in _ (by omega) (by omega)
  have hX : actR k bs = if kn = false then .err 4 else
    (optR f0 textR ByteArray.empty bs).bind fun nm bs => (optR f1 textR ByteArray.empty bs).bind fun by_ bs => (nR f2 k bs).bind fun n bs =>
    (optR f3 (listR textR) [] bs).bind fun ns bs => (optR f4 (listR numR) [] bs).bind fun ts bs => .ok ⟨k, n, nm, by_.data.toList, ns, ts⟩ bs := by
    unfold actR; rw [hF]
  generalize hXX : actR k bs = X at hC hX
  clear hXX
  have hpan : ∀ c, X = .err c → ∀ σ, Pan C (wrongP c) σ := fun c hc σ => by
    subst hc
    exact (Pan.of hC Try.func25 ⟨rfl, rfl⟩).le (SLe.nil σ)
  have hfin : ∀ x bs', X = .ok x bs' → ∀ d3 d4 d5 (σ : Store) env, FD d3 (.slc (x.by_.map bD)) → FD d4 (.slc (x.names.map sD)) → FD d5 (.slc (x.tails.map iD)) → RT r (bs', false) [] σ → (∃ b4, eget 4 env = .ptr b4 6 0 0 ∧ ∃ σ2, SLe σ σ2 ∧ sget b4 σ2 = some (.arr 6 [.agg [.v (.int .i64 x.kind), .v (.int .i64 x.num), .v (.string x.name), d3, d4, d5]]) ∧ True) → True := fun _ _ _ _ _ _ _ _ _ _ _ _ _ => trivial
  clear hfin
  refine Goes.seq ?_
  refine Goes.region [0, 1] fun K hK => ?_; simp (maxSteps := 4000000) only [go_sem, ↓reduceIte, reduceCtorEq, Nat.reduceEqDiff, Nat.reduceBEq, Int.reduceBEq, Int.reduceBNe, Nat.reduceLT, Nat.reduceLeDiff, Nat.reduceAdd, Nat.reduceSub, Nat.reduceMul, Int.reduceToNat, Int.reduceEq, Int.reduceLT, Int.reduceLE]
  intro b2 hb2 b4 hb4
  have n6 : b2 ≠ b4 := fun e => by subst e; rw [sget_self] at hb4; cases hb4
  have hr2 : b2 ≠ r := fun e => by subst e; simp [rst, sget] at hb2
  have hr4 : b4 ≠ r := fun e => by subst e; rw [sget_cons, if_neg n6.symm] at hb4; simp [rst, sget] at hb4
  refine hK _ _ ?_; clear hK K
  refine Goes.seq ?_
  refine Goes.region [1, 2, 4] fun K hK => ?_; simp (maxSteps := 4000000) only [go_sem, ↓reduceIte, reduceCtorEq, Nat.reduceEqDiff, Nat.reduceBEq, Int.reduceBEq, Int.reduceBNe, Nat.reduceLT, Nat.reduceLeDiff, Nat.reduceAdd, Nat.reduceSub, Nat.reduceMul, Int.reduceToNat, Int.reduceEq, Int.reduceLT, Int.reduceLE, hw]
  refine ⟨_, Try.call33, (fields_calls k _).mono ?_⟩
  rintro e σ1 ⟨rfl, rfl⟩
  rw [hF]
  simp only [go_sem, ↓reduceIte, reduceCtorEq, Nat.reduceEqDiff, Nat.reduceBEq, Int.reduceBEq, Int.reduceBNe, Nat.reduceLT, Nat.reduceLeDiff, Nat.reduceAdd, Nat.reduceSub, Nat.reduceMul, Int.reduceToNat, Int.reduceEq, Int.reduceLT, Int.reduceLE]
  intro b5 hb5
  have n4 : b4 ≠ b5 := fun e => by subst e; rw [sget_self] at hb5; cases hb5
  have n5 : b2 ≠ b5 := fun e => by subst e; rw [sget_cons, if_neg n6, sget_self] at hb5; cases hb5
  have hr5 : b5 ≠ r := fun e => by subst e; rw [sget_cons, if_neg n4.symm, sget_cons, if_neg n5.symm] at hb5; simp [rst, sget] at hb5
  refine hK _ _ ?_; clear hK K
  refine Goes.seq ?_
  refine Goes.region [1, 2, 4, 5, 6] fun K hK => ?_; simp (maxSteps := 4000000) only [go_sem, ↓reduceIte, reduceCtorEq, Nat.reduceEqDiff, Nat.reduceBEq, Int.reduceBEq, Int.reduceBNe, Nat.reduceLT, Nat.reduceLeDiff, Nat.reduceAdd, Nat.reduceSub, Nat.reduceMul, Int.reduceToNat, Int.reduceEq, Int.reduceLT, Int.reduceLE]
  refine need_v (fun hb => ?_) (fun hb => ?_)
  rotate_left
  · exact hpan 4 (by rw [hX, if_pos hb]) _
  rw [if_neg (by rw [hb]; simp)] at hX
  simp only [go_sem, ↓reduceIte, reduceCtorEq, Nat.reduceEqDiff, Nat.reduceBEq, Int.reduceBEq, Int.reduceBNe, Nat.reduceLT, Nat.reduceLeDiff, Nat.reduceAdd, Nat.reduceSub, Nat.reduceMul, Int.reduceToNat, Int.reduceEq, Int.reduceLT, Int.reduceLE]
  refine hK _ _ ?_; clear hK K
  refine Goes.seq ?_
  refine Goes.region [1, 2, 4, 5] fun K hK => ?_; simp (maxSteps := 4000000) only [go_sem, ↓reduceIte, reduceCtorEq, Nat.reduceEqDiff, Nat.reduceBEq, Int.reduceBEq, Int.reduceBNe, Nat.reduceLT, Nat.reduceLeDiff, Nat.reduceAdd, Nat.reduceSub, Nat.reduceMul, Int.reduceToNat, Int.reduceEq, Int.reduceLT, Int.reduceLE, hw]
  intro b7 hb7
  have n1 : b5 ≠ b7 := fun e => by subst e; rw [sget_self] at hb7; cases hb7
  have n2 : b4 ≠ b7 := fun e => by subst e; rw [sget_cons, if_neg n4, sget_self] at hb7; cases hb7
  have n3 : b2 ≠ b7 := fun e => by subst e; rw [sget_cons, if_neg n5, sget_cons, if_neg n6, sget_self] at hb7; cases hb7
  have hr7 : b7 ≠ r := fun e => by subst e; rw [sget_cons, if_neg n1.symm, sget_cons, if_neg n2.symm, sget_cons, if_neg n3.symm] at hb7; simp [rst, sget] at hb7
  refine hK _ _ ?_; clear hK K
  have hrr : sget r (rest25 b2 b4 b5 b7 r f0 f1 f2 f3 f4 [.v (.int .i64 k), .v (.int .i64 0), .v (.string ByteArray.empty), .v (.slice none 0 0), .v (.slice none 0 0), .v (.slice none 0 0)]) = none := by
    unfold rest25
    rw [sget_cons, if_neg hr7.symm, sget_cons, if_neg hr5.symm, sget_cons, if_neg hr4.symm, sget_cons, if_neg hr2.symm]; rfl
  refine Goes.le (σ' := rst r (bs, false) ++ rest25 b2 b4 b5 b7 r f0 f1 f2 f3 f4 [.v (.int .i64 k), .v (.int .i64 0), .v (.string ByteArray.empty), .v (.slice none 0 0), .v (.slice none 0 0), .v (.slice none 0 0)]) (ELe.refl _) ?_ ?_
  · refine SLe.append (SLe.cons ?_ (SLe.nil _)) (SLe.append_left (rest25 b2 b4 b5 b7 r f0 f1 f2 f3 f4 _) _)
    rw [sget_cons, if_neg hr7.symm, sget_cons, if_neg hr5.symm, sget_cons, if_neg hr4.symm, sget_cons, if_neg hr2.symm]
    exact sget_self ..
  have hI : Fr25 r b2 b4 b5 b7 f0 f1 f2 f3 f4 bs [.v (.int .i64 k), .v (.int .i64 0), .v (.string ByteArray.empty), .v (.slice none 0 0), .v (.slice none 0 0), .v (.slice none 0 0)]
      [(7, .ptr b7 6 0 0), (1, .v (.int .u8 k)), (2, .ptr b2 1 0 0), (4, .ptr b4 6 0 0), (5, .ptr b5 5 0 0)] (rst r (bs, false) ++ rest25 b2 b4 b5 b7 r f0 f1 f2 f3 f4 [.v (.int .i64 k), .v (.int .i64 0), .v (.string ByteArray.empty), .v (.slice none 0 0), .v (.slice none 0 0), .v (.slice none 0 0)]) :=
    ⟨rfl, rfl, rfl, rfl, ⟨rfl, hrr⟩, n1, n2, n3, n4, n5, n6⟩
  refine Goes.seq (r_name (by omega) ⟨rfl, rfl, rfl, rfl, hI.rt, n1, n2, n3, n4, n5, n6⟩ (fun c hc σ => hpan c (by rw [hX, hc]; rfl) σ) _ fun nm bs1 h1 env σ hI => ?_)
  rw [h1] at hX
  simp only [Res.bind] at hX
  have l1 := optR_len (fun a b h => textR_ok h) h1
  refine Goes.seq (r_bytes (by omega) hI (fun c hc σ => hpan c (by rw [hX, hc]) σ) _ fun by_ bs2 h2 d3 env σ hd3 hI => ?_)
  rw [h2] at hX
  simp only [] at hX
  have l2 := optR_len (fun a b h => textR_ok h) h2
  refine Goes.seq (r_num (by omega) hI (fun c hc σ => hpan c (by rw [hX, hc]) σ) _ fun n bs3 h3 env σ hI => ?_)
  rw [h3] at hX
  simp only [] at hX
  have l3 := nR_len h3
  refine Goes.seq (r_names (by omega) hI (fun y hy b sz xs => ?_) (fun c hc σ => hpan c (by rw [hX, hc]) σ) _ fun ns bs4 h4 d4 env σ hd4 hI => ?_)
  · simp only [List.mem_cons, List.not_mem_nil, or_false] at hy
    rcases hy with rfl | rfl | rfl | rfl | rfl
    · rfl
    · rfl
    · rfl
    · exact hd3.pub _ _ _
    · rfl
  rw [h4] at hX
  simp only [] at hX
  have l4 := optR_len (fun a b h => listR_len (fun a b b' h => textR_ok h) h) h4
  refine Goes.seq (r_tails (by omega) hI (fun y hy b sz xs => ?_) (fun c hc σ => hpan c (by rw [hX, hc]) σ) _ fun ts bs5 h5 d5 env σ hd5 hI => ?_)
  · simp only [List.mem_cons, List.not_mem_nil, or_false] at hy
    rcases hy with rfl | rfl | rfl | rfl | rfl
    · rfl
    · rfl
    · rfl
    · exact hd3.pub _ _ _
    · exact hd4.pub _ _ _
  rw [h5] at hX
  simp only [] at hX
  subst hX
  have g7 := hI.g7
  have g4 := hI.g4
  obtain ⟨e2, e4, e5, e7, rt, -, -, -, -, -, -⟩ := hI
  have c3 := hd3.cell
  have c4 := hd4.cell
  have c5 := hd5.cell
  refine Goes.seq ?_
  refine Goes.region [4, 7] fun K hK => ?_; simp (maxSteps := 4000000) only [go_sem, ↓reduceIte, reduceCtorEq, Nat.reduceEqDiff, Nat.reduceBEq, Int.reduceBEq, Int.reduceBNe, Nat.reduceLT, Nat.reduceLeDiff, Nat.reduceAdd, Nat.reduceSub, Nat.reduceMul, Int.reduceToNat, Int.reduceEq, Int.reduceLT, Int.reduceLE, e4, e7, g7, g4, c3, c4, c5]
  refine hK _ _ ?_
  have hrow : sget b4 (sset b4 (.arr 6 [.agg [.v (.int .i64 k), .v (.int .i64 n), .v (.string nm), d3, d4, d5]]) σ) = some (.arr 6 [.agg [.v (.int .i64 k), .v (.int .i64 n), .v (.string nm), d3, d4, d5]]) := by
    rw [sget_sset, if_pos rfl, g4]; rfl
  have hle : SLe (rst r (bs5, false) ++ [(b4, .arr 6 [.agg [.v (.int .i64 k), .v (.int .i64 n), .v (.string nm), d3, d4, d5]])]) (sset b4 (.arr 6 [.agg [.v (.int .i64 k), .v (.int .i64 n), .v (.string nm), d3, d4, d5]]) σ) := by
    refine SLe.append (SLe.cons ?_ (SLe.nil _)) (SLe.cons hrow (SLe.nil _))
    rw [sget_sset, if_neg hr4.symm, rt.eq]
    exact sget_self ..
  have hr0 : sget b4 (rst r (bs5, false) ++ [(b4, .arr 6 [.agg [.v (.int .i64 k), .v (.int .i64 n), .v (.string nm), d3, d4, d5]])]) = some (.arr 6 [.agg [.v (.int .i64 k), .v (.int .i64 n), .v (.string nm), d3, d4, d5]]) := by
    show sget b4 ((r, _) :: (b4, _) :: []) = _
    rw [sget_cons, if_neg hr4, sget_self]
  refine Goes.le (ELe.refl _) hle ?_
  refine Goes.ret hC Try.func25 (by simp [go_sem, resPre, hr0]) ?_
  simp only [go_sem, ↓reduceIte, reduceCtorEq, Nat.reduceEqDiff, Nat.reduceBEq, Int.reduceBEq, Int.reduceBNe, Nat.reduceLT, Nat.reduceLeDiff, Nat.reduceAdd, Nat.reduceSub, Nat.reduceMul, Int.reduceToNat, Int.reduceEq, Int.reduceLT, Int.reduceLE, hr0]
  exact ⟨d3, d4, d5, hd3, hd4, hd5, rfl, _, rfl, by simp [sget, hr4.symm]⟩
end Go.Ab.S21

/- Layer 21: script.Read. -/
namespace Go.Ab.S21
open Go Go.Proofs

/-- A row of one's own beside a reader's, and others. -/
structure RG (r : Nat) (bs : List UInt8) (o : Option Nat) (sz : Nat) (xs : List D) (ρ σ : Store) : Prop where
  rt : RT r (bs, false) (cellsOf o sz xs ++ ρ) σ
  gr : GrD o sz xs ρ

section
variable {r : Nat} {bs : List UInt8} {o : Option Nat} {sz : Nat} {xs : List D} {ρ σ : Store} (h : RG r bs o sz xs ρ σ)
include h
theorem RG.or : o ≠ some r := fun e => by
  have := h.rt.apart
  rw [e] at this; simp [cellsOf, sget] at this
theorem RG.rr : sget r ρ = none := none_of_sle h.gr.sle h.rt.apart
theorem RG.keep {b : Nat} {x : AObj} (hb : sget b ρ = some x) : sget b σ = some x := h.rt.keep (h.gr.keep hb)
theorem RG.oget : oget sz o σ = some xs := by
  rw [h.rt.eq]
  cases o with
  | none => simp [Ab.oget, h.gr.zero rfl]
  | some b =>
    have hne : b ≠ r := fun e => h.or (by rw [e])
    show Ab.oget sz (some b) ((r, _) :: (b, _) :: _) = _
    rw [oget_ne hne, oget_self]
theorem RG.sdel : sdelo o σ = rst r (bs, false) ++ ρ := by
  rw [h.rt.eq]
  cases o with
  | none => rfl
  | some b =>
    have hne : b ≠ r := fun e => h.or (by rw [e])
    show Ab.sdel b ((r, _) :: (b, _) :: ρ) = (r, _) :: _
    rw [sdel_ne hne, sdel_self, sdel_fresh (h.gr.fresh b rfl)]
    rfl
theorem RG.next {ob : Option Nat} {x : D} (hz : ob = none → xs ++ [x] = []) (hf : Fresh ob (rst r (bs, false) ++ ρ)) :
    (∀ b y, sget b ρ = some y → sget b (cellsOf ob sz (xs ++ [x]) ++ (rst r (bs, false) ++ ρ)) = some y) ∧
    ∀ (c : Nat) (y0 row : AObj), sget c ρ = some y0 → SLe (rst r (bs, false) ++ (cellsOf ob sz (xs ++ [x]) ++ sset c row ρ)) (sset c row (cellsOf ob sz (xs ++ [x]) ++ (rst r (bs, false) ++ ρ))) ∧ RG r bs ob sz (xs ++ [x]) (sset c row ρ) (rst r (bs, false) ++ (cellsOf ob sz (xs ++ [x]) ++ sset c row ρ)) := by
  have hr := h.rr
  obtain ⟨b, rfl⟩ : ∃ b, ob = some b := by
    cases ob with
    | none => have := hz rfl; simp at this
    | some b => exact ⟨b, rfl⟩
  have hb := hf b rfl
  have hbr : b ≠ r := fun e => by rw [e] at hb; simp [rst, sget] at hb
  have hb2 : sget b ρ = none := by
    rw [show rst r (bs, false) ++ ρ = (r, .arr 2 [.agg [.slc (bs.map bD), .v (.bool false)]]) :: ρ from rfl, sget_cons, if_neg hbr] at hb
    exact hb
  have hne : ∀ c y, sget c ρ = some y → c ≠ b ∧ c ≠ r := fun c y hc => ⟨(fun e => by subst e; rw [hb2] at hc; cases hc), (fun e => by subst e; rw [hr] at hc; cases hc)⟩
  have key : ∀ c y, sget c ρ = some y → sget c (cellsOf (some b) sz (xs ++ [x]) ++ (rst r (bs, false) ++ ρ)) = some y := fun c y hc => by
    obtain ⟨q1, q2⟩ := hne c y hc
    show sget c ((b, _) :: (r, _) :: ρ) = _
    rw [sget_cons, if_neg q1, sget_cons, if_neg q2, hc]
  refine ⟨key, fun c y0 row hc0 => ?_⟩
  obtain ⟨q1, q2⟩ := hne c y0 hc0
  have hrz : ∀ d, sget d ρ = none → sget d (sset c row ρ) = none := fun d hd => by
    rw [sget_sset]
    split
    · rename_i e; rw [e, hc0] at hd; cases hd
    · exact hd
  refine ⟨SLe.append (SLe.cons ?_ (SLe.nil _)) (SLe.append (SLe.cons ?_ (SLe.nil _)) fun d y hd => ?_), ⟨⟨rfl, ?_⟩, ⟨fun d hd => ?_, fun e => by cases e⟩⟩⟩
  · rw [sget_sset, if_neg (fun e => q2 e.symm)]
    show sget r ((b, _) :: (r, _) :: ρ) = _
    rw [sget_cons, if_neg (fun e => hbr e.symm), sget_self]
  · rw [sget_sset, if_neg (fun e => q1 e.symm)]; simp [cellsOf, sget]
  · rw [sget_sset] at hd ⊢
    by_cases hdc : d = c
    · rw [if_pos hdc, hc0] at hd
      rw [if_pos hdc, key c y0 hc0]; exact hd
    · rw [if_neg hdc] at hd
      rw [if_neg hdc]; exact key d y hd
  · show sget r ((b, _) :: sset c row ρ) = none
    rw [sget_cons, if_neg (fun e => hbr e.symm)]; exact hrz r hr
  · cases hd; exact hrz b hb2
end

/-- The acts of bytes. -/
def readR : Nat → List UInt8 → Res (List XAct)
  | _, [] => .ok [] []
  | 0, _ => .ok [] []
  | n + 1, c :: t => (actR c.toNat t).bind fun x bs => (readR n bs).bind fun l b => .ok (x :: l) b

theorem actR_len {k : Int} {bs bs' : List UInt8} {x : XAct} (h : actR k bs = .ok x bs') : bs'.length ≤ bs.length := by
  obtain ⟨f0, f1, f2, f3, f4, kn, hF, _⟩ := fields_cases k
  unfold actR at h
  rw [hF] at h
  simp only [] at h
  split at h
  · cases h
  cases h1 : optR f0 textR ByteArray.empty bs with
  | err c => rw [h1] at h; cases h
  | ok nm b1 =>
  rw [h1] at h
  simp only [Res.bind] at h
  cases h2 : optR f1 textR ByteArray.empty b1 with
  | err c => rw [h2] at h; cases h
  | ok by_ b2 =>
  rw [h2] at h
  simp only [] at h
  cases h3 : nR f2 k b2 with
  | err c => rw [h3] at h; cases h
  | ok n b3 =>
  rw [h3] at h
  simp only [] at h
  cases h4 : optR f3 (listR textR) [] b3 with
  | err c => rw [h4] at h; cases h
  | ok ns b4 =>
  rw [h4] at h
  simp only [] at h
  cases h5 : optR f4 (listR numR) [] b4 with
  | err c => rw [h5] at h; cases h
  | ok ts b5 =>
  rw [h5] at h
  cases h
  have l1 := optR_len (fun a b h => textR_ok h) h1
  have l2 := optR_len (fun a b h => textR_ok h) h2
  have l3 := nR_len h3
  have l4 := optR_len (fun a b h => listR_len (fun a b b' h => textR_ok h) h) h4
  have l5 := optR_len (fun a b h => listR_len (fun a b b' h => (numR_ok h).2.2) h) h5
  omega

theorem readR_fuel : ∀ (n m : Nat) (bs : List UInt8), bs.length ≤ n → bs.length ≤ m → readR n bs = readR m bs
  | _, _, [], _, _ => by simp [readR]
  | 0, _, c :: t, h, _ => by simp at h
  | _, 0, c :: t, _, h => by simp at h
  | n + 1, m + 1, c :: t, h1, h2 => by
    simp only [List.length_cons, Nat.add_le_add_iff_right] at h1 h2
    rw [readR, readR]
    cases hx : actR c.toNat t with
    | err e => rfl
    | ok x bs =>
      have := actR_len hx
      simp only [Res.bind]
      rw [readR_fuel n m bs (by omega) (by omega)]

theorem readR_step {c : UInt8} {t bs bs0 : List UInt8} {x : XAct} {li : List XAct} (hm : readR bs0.length bs0 = (readR (c :: t).length (c :: t)).bind fun l b => .ok (li ++ l) b) (hx : actR c.toNat t = .ok x bs) :
    readR bs0.length bs0 = (readR bs.length bs).bind fun l b => .ok (li ++ [x] ++ l) b := by
  rw [hm, List.length_cons, readR, hx]
  simp only [Res.bind]
  rw [readR_fuel t.length bs.length bs (actR_len hx) (Nat.le_refl _)]
  cases readR bs.length bs with
  | err c => rfl
  | ok l b => simp
theorem readR_err {c : UInt8} {t bs0 : List UInt8} {e : Int} {li : List XAct} (hm : readR bs0.length bs0 = (readR (c :: t).length (c :: t)).bind fun l b => .ok (li ++ l) b) (hx : actR c.toNat t = .err e) :
    readR bs0.length bs0 = .err e := by
  rw [hm, List.length_cons, readR, hx]; rfl
end Go.Ab.S21
