/- Layer 21: script.Write. -/
import Derived.Test.YtcpcfglccnmmnaaS21z
set_option linter.unusedSimpArgs false
set_option linter.unusedVariables false
set_option linter.constructorNameAsVariable false
namespace Go.Ab.S21
open Go Go.Proofs

theorem St.act {w : Nat} {bs : List UInt8} {ρ σ : Store} (h : St w bs ρ σ) (x : XAct) (hfit : x.Fits) (hl : bs.length < 2 ^ 36) :
    ACalls Try.prog 18 [.ptr w 1 0 0, x.d] σ (fun e σ' => if x.wrong = 0 then e = .ret (.tup []) ∧ St w (bs ++ x.bytes) ρ σ' else e = .panic (wrongP x.wrong) ∧ σ' = ρ) := by
  obtain ⟨o, h1, rfl, h3⟩ := h.ex
  refine ((act_calls w o bs x h1 hfit hl).frame (SLe.append_left _ _) (SLe.append_right h3) h3).mono fun e σ' hR => ?_
  obtain ⟨σ1, hR, hap, rfl⟩ := hR
  split at hR
  · rename_i hc
    obtain ⟨rfl, o', h4, rfl⟩ := hR
    rw [if_pos hc]; exact ⟨rfl, ⟨o', h4, rfl, hap⟩⟩
  · rename_i hc
    obtain ⟨rfl, rfl⟩ := hR
    rw [if_neg hc]; exact ⟨rfl, rfl⟩

/-- The first error of a row of acts; 0: none. -/
def firstWrong : List XAct → Int
  | [] => 0
  | x :: r => if x.wrong = 0 then firstWrong r else x.wrong

theorem firstWrong_at : ∀ (l : List XAct) (i : Nat) (hi : i < l.length), (∀ x ∈ l.take i, x.wrong = 0) → l[i].wrong ≠ 0 → firstWrong l = l[i].wrong
  | x :: r, 0, hi, _, h => by simp [firstWrong] at h ⊢; simp [h]
  | x :: r, i + 1, hi, h0, h => by
    have hx := h0 x (by simp)
    simp only [firstWrong, hx, if_true]
    exact firstWrong_at r i (by simpa using hi) (fun y hy => h0 y (by simp [hy])) (by simpa using h)
theorem firstWrong_none : ∀ (l : List XAct), (∀ x ∈ l, x.wrong = 0) → firstWrong l = 0
  | [], _ => rfl
  | x :: r, h => by simp only [firstWrong, h x (by simp), if_true]; exact firstWrong_none r fun y hy => h y (by simp [hy])

def allBytes (l : List XAct) : List UInt8 := l.flatMap XAct.bytes
def actsD (l : List XAct) : D := .slc (l.map XAct.d)

theorem writes_calls (w wb lb : Nat) (l : List XAct) (ρ0 : Store) {ρ σ : Store} (hρ : ρ = [(wb, .arr 1 [.ptr w 1 0 0]), (lb, .arr 1 [actsD l])] ++ ρ0) (hne : lb ≠ wb) (hst : St w [] ρ σ) (hfit : ∀ x ∈ l, x.Fits) (hl : (allBytes l).length < 2 ^ 36) (hm : l.length < 2 ^ 30) :
    ACalls Try.prog 17 [.ptr lb 1 0 0, .ptr wb 1 0 0] σ (fun e σ' => if firstWrong l = 0 then e = .ret (.tup []) ∧ St w (allBytes l) ρ σ' else e = .panic (wrongP (firstWrong l)) ∧ σ' = ρ) := by
  have hw1 : ∀ bs σ, St w bs ρ σ → sget wb σ = some (.arr 1 [.ptr w 1 0 0]) := fun bs σ h => h.keep (by rw [hρ]; exact sget_self ..)
  have hl1 : ∀ bs σ, St w bs ρ σ → sget lb σ = some (.arr 1 [actsD l]) := fun bs σ h => h.keep (by rw [hρ, List.cons_append, sget_cons, if_neg hne]; exact sget_self ..)
  have h1 := hl1 _ _ hst
  unfold actsD at h1
  refine ACalls.of_body Try.func17 rfl Try.ntmps17 (by simp) fun C hC => ?_
  refine Goes.seq ?_
  refine Goes.region [0, 1] fun K hK => ?_; simp (maxSteps := 4000000) only [go_sem, ↓reduceIte, reduceCtorEq, Nat.reduceEqDiff, Nat.reduceBEq, Int.reduceBEq, Int.reduceBNe, Nat.reduceLT, Nat.reduceLeDiff, Nat.reduceAdd, Nat.reduceSub, Nat.reduceMul, Int.reduceToNat, Int.reduceEq, Int.reduceLT, Int.reduceLE, h1]
  refine hK _ _ ?_; clear hK K
  refine Goes.rebase [0, 1, 4, 5, 6] ?_
  simp only [go_sem, ↓reduceIte, reduceCtorEq, Nat.reduceEqDiff, Nat.reduceBEq, Int.reduceBEq, Int.reduceBNe, Nat.reduceLT, Nat.reduceLeDiff, Nat.reduceAdd, Nat.reduceSub, Nat.reduceMul, Int.reduceToNat, Int.reduceEq, Int.reduceLT, Int.reduceLE]
  refine Goes.block ?_
  have hlen : (l.map XAct.d).length = l.length := List.length_map ..
  refine Goes.while (fun (i : Nat) env' σ' => i ≤ l.length ∧ (∀ x ∈ l.take i, x.wrong = 0) ∧ env' = [(0, .ptr lb 1 0 0), (1, .ptr wb 1 0 0), (4, .slc (l.map XAct.d)), (5, .v (.int .i64 ((l.map XAct.d).length : Int))), (6, .v (.int .i64 (i : Int)))] ∧
    St w (allBytes (l.take i)) ρ σ') (fun i => l.length - i) 0 ⟨by omega, by simp, rfl, by simpa [allBytes] using hst⟩ ?_
  clear hst h1 σ
  rintro i env' σ ⟨hi, hall, rfl, hst⟩ ih
  repeat' (first | refine Goes.seq ?_ | refine Goes.skip ?_ | refine Goes.inBlock ?_ | refine Goes.block ?_ | refine Goes.exit rfl ?_ | (refine Goes.region [0, 1, 4, 5, 6] fun K hK => ?_; simp (maxSteps := 4000000) only [go_sem, ↓reduceIte, reduceCtorEq, Nat.reduceEqDiff, Nat.reduceBEq, Int.reduceBEq, Int.reduceBNe, Nat.reduceLT, Nat.reduceLeDiff, Nat.reduceAdd, Nat.reduceSub, Nat.reduceMul, Int.reduceToNat, Int.reduceEq, Int.reduceLT, Int.reduceLE]; refine hK _ _ ?_; clear hK K))
  refine Goes.cond rfl (fun h => ?_) (fun h => ?_)
  · have hlt : i < l.length := by simpa [hlen] using h
    have hg := getD_map_lt XAct.d l i hlt
    have hw2 := hw1 _ _ hst
    refine Goes.skip ?_
    refine Goes.seq ?_
    refine Goes.block ?_
    refine Goes.seq ?_
    rw [XAct.d] at hg
    refine Goes.region [0, 1, 4, 5, 6] fun K hK => ?_; simp (maxSteps := 4000000) only [go_sem, ↓reduceIte, reduceCtorEq, Nat.reduceEqDiff, Nat.reduceBEq, Int.reduceBEq, Int.reduceBNe, Nat.reduceLT, Nat.reduceLeDiff, Nat.reduceAdd, Nat.reduceSub, Nat.reduceMul, Int.reduceToNat, Int.reduceEq, Int.reduceLT, Int.reduceLE, hg]
    refine ⟨⟨by omega, by omega⟩, fun b3 hb3 => hK _ _ ?_⟩; clear hK K
    have hwb : wb ≠ b3 := fun e => by subst e; rw [hb3] at hw2; cases hw2
    refine Goes.region [0, 1, 3, 4, 5, 6] fun K hK => ?_; simp (maxSteps := 4000000) only [go_sem, ↓reduceIte, reduceCtorEq, Nat.reduceEqDiff, Nat.reduceBEq, Int.reduceBEq, Int.reduceBNe, Nat.reduceLT, Nat.reduceLeDiff, Nat.reduceAdd, Nat.reduceSub, Nat.reduceMul, Int.reduceToNat, Int.reduceEq, Int.reduceLT, Int.reduceLE, hw2, hwb]
    have hpre : (allBytes (l.take i)).length ≤ (allBytes l).length := by
      unfold allBytes
      conv => rhs; rw [← List.take_append_drop i l, List.flatMap_append, List.length_append]
      omega
    refine ⟨_, Try.call18, ((hst.act l[i] (hfit _ (List.getElem_mem hlt)) (by omega)).store_le (sle_cons (SLe.refl _) hb3)).mono ?_⟩
    intro e σ1 hR
    by_cases hc : l[i].wrong = 0
    · rw [if_pos hc] at hR
      obtain ⟨rfl, hst1⟩ := hR
      simp only [go_sem, ↓reduceIte, reduceCtorEq, Nat.reduceEqDiff, Nat.reduceBEq, Int.reduceBEq, Int.reduceBNe, Nat.reduceLT, Nat.reduceLeDiff, Nat.reduceAdd, Nat.reduceSub, Nat.reduceMul, Int.reduceToNat, Int.reduceEq, Int.reduceLT, Int.reduceLE]
      refine hK _ _ ?_; clear hK K
      refine Goes.inBlock ?_
      repeat' (first | refine Goes.seq ?_ | refine Goes.skip ?_ | refine Goes.inBlock ?_ | refine Goes.block ?_ | refine Goes.exit rfl ?_ | (refine Goes.region [0, 1, 4, 5, 6] fun K hK => ?_; simp (maxSteps := 4000000) only [go_sem, ↓reduceIte, reduceCtorEq, Nat.reduceEqDiff, Nat.reduceBEq, Int.reduceBEq, Int.reduceBNe, Nat.reduceLT, Nat.reduceLeDiff, Nat.reduceAdd, Nat.reduceSub, Nat.reduceMul, Int.reduceToNat, Int.reduceEq, Int.reduceLT, Int.reduceLE]; refine hK _ _ ?_; clear hK K))
      refine Goes.rebase [0, 1, 4, 5, 6] ?_
      simp only [go_sem, ↓reduceIte, reduceCtorEq, Nat.reduceEqDiff, Nat.reduceBEq, Int.reduceBEq, Int.reduceBNe, Nat.reduceLT, Nat.reduceLeDiff, Nat.reduceAdd, Nat.reduceSub, Nat.reduceMul, Int.reduceToNat, Int.reduceEq, Int.reduceLT, Int.reduceLE]
      rw [wrap_succ i (by omega)]
      refine ih (i + 1) _ _ ⟨by omega, ?_, rfl, ?_⟩ (by omega)
      · rw [List.take_succ_eq_append_getElem hlt]
        intro x hx
        rcases List.mem_append.1 hx with hx | hx
        · exact hall x hx
        · simp only [List.mem_singleton] at hx; rw [hx]; exact hc
      · unfold allBytes at hst1 ⊢
        rw [take_succ_flatMap _ l i hlt]; exact hst1
    · rw [if_neg hc] at hR
      obtain ⟨rfl, rfl⟩ := hR
      simp only [go_sem, ↓reduceIte, reduceCtorEq, Nat.reduceEqDiff, Nat.reduceBEq, Int.reduceBEq, Int.reduceBNe, Nat.reduceLT, Nat.reduceLeDiff, Nat.reduceAdd, Nat.reduceSub, Nat.reduceMul, Int.reduceToNat, Int.reduceEq, Int.reduceLT, Int.reduceLE]
      have hfw := firstWrong_at l i hlt hall hc
      exact Pan.of hC Try.func17 (by rw [hfw, if_neg hc]; exact ⟨rfl, rfl⟩)
  · have hge : ¬ i < l.length := by simpa [hlen] using h
    have : i = l.length := by omega
    subst this
    repeat' (first | refine Goes.seq ?_ | refine Goes.skip ?_ | refine Goes.inBlock ?_ | refine Goes.block ?_ | refine Goes.exit rfl ?_ | (refine Goes.region [0] fun K hK => ?_; simp (maxSteps := 4000000) only [go_sem, ↓reduceIte, reduceCtorEq, Nat.reduceEqDiff, Nat.reduceBEq, Int.reduceBEq, Int.reduceBNe, Nat.reduceLT, Nat.reduceLeDiff, Nat.reduceAdd, Nat.reduceSub, Nat.reduceMul, Int.reduceToNat, Int.reduceEq, Int.reduceLT, Int.reduceLE]; refine hK _ _ ?_; clear hK K))
    rw [List.take_length] at hst hall
    refine Goes.done hC Try.func17 (by simp [go_sem]) ?_
    simp only [go_sem, ↓reduceIte, reduceCtorEq, Nat.reduceEqDiff, Nat.reduceBEq, Int.reduceBEq, Int.reduceBNe, Nat.reduceLT, Nat.reduceLeDiff, Nat.reduceAdd, Nat.reduceSub, Nat.reduceMul, Int.reduceToNat, Int.reduceEq, Int.reduceLT, Int.reduceLE]
    rw [if_pos (firstWrong_none l hall)]
    exact hst

/-- script.Write: the bytes of acts, or the first error. -/
theorem write_calls (l : List XAct) (σ : Store) (hfit : ∀ x ∈ l, x.Fits) (hl : (allBytes l).length < 2 ^ 36) (hm : l.length < 2 ^ 30) :
    ACalls Try.prog 8 [actsD l] σ (fun e σ' => if firstWrong l = 0 then ∃ o, e = .ret (.tup [.own o 1 (allBytes l).length, .v (.int .i64 0)]) ∧ Fresh o σ ∧ (o = none → allBytes l = []) ∧ σ' = cellsOf o 1 ((allBytes l).map bD) ++ σ
      else e = .ret (.tup [.v (.slice none 0 0), .v (.int .i64 (firstWrong l))]) ∧ σ' = σ) := by
  suffices h : ACalls Try.prog 8 [actsD l] [] (fun e σ' => if firstWrong l = 0 then ∃ o, e = .ret (.tup [.own o 1 (allBytes l).length, .v (.int .i64 0)]) ∧ (o = none → allBytes l = []) ∧ σ' = cellsOf o 1 ((allBytes l).map bD)
      else e = .ret (.tup [.v (.slice none 0 0), .v (.int .i64 (firstWrong l))]) ∧ σ' = []) by
    refine (h.quiet (σ := σ)).mono ?_
    rintro e σ' ⟨σ1, hR, hap, rfl⟩
    by_cases hc : firstWrong l = 0
    · rw [if_pos hc] at hR ⊢
      obtain ⟨o, rfl, h1, rfl⟩ := hR
      refine ⟨o, rfl, fun c hc => ?_, h1, rfl⟩
      subst hc
      cases hs : sget c σ with
      | none => rfl
      | some x => have := hap c (by rw [hs]; simp); simp [cellsOf, sget] at this
    · rw [if_neg hc] at hR ⊢
      obtain ⟨rfl, rfl⟩ := hR
      exact ⟨rfl, rfl⟩
  unfold actsD
  refine ACalls.of_body Try.func8 rfl Try.ntmps8 (by simp) fun C hC => ?_
  refine Goes.seq ?_
  refine Goes.region [0] fun K hK => ?_; simp (maxSteps := 4000000) only [go_sem, ↓reduceIte, reduceCtorEq, Nat.reduceEqDiff, Nat.reduceBEq, Int.reduceBEq, Int.reduceBNe, Nat.reduceLT, Nat.reduceLeDiff, Nat.reduceAdd, Nat.reduceSub, Nat.reduceMul, Int.reduceToNat, Int.reduceEq, Int.reduceLT, Int.reduceLE]
  intro lb
  refine hK _ _ ?_; clear hK K
  refine Goes.seq ?_
  refine Goes.region [1, 2, 3] fun K hK => ?_; simp (maxSteps := 4000000) only [go_sem, ↓reduceIte, reduceCtorEq, Nat.reduceEqDiff, Nat.reduceBEq, Int.reduceBEq, Int.reduceBNe, Nat.reduceLT, Nat.reduceLeDiff, Nat.reduceAdd, Nat.reduceSub, Nat.reduceMul, Int.reduceToNat, Int.reduceEq, Int.reduceLT, Int.reduceLE]
  intro w hw wb hwb
  have h1 : w ≠ lb := fun e => by subst e; rw [sget_self] at hw; cases hw
  have h2 : wb ≠ w := fun e => by subst e; rw [sget_self] at hwb; cases hwb
  have h3 : wb ≠ lb := fun e => by subst e; rw [sget_cons, if_neg h2, sget_self] at hwb; cases hwb
  refine hK _ _ ?_; clear hK K
  have hρ : [(wb, .arr 1 [.ptr w 1 0 0]), (lb, .arr 1 [actsD l])] ++ [] = ([(wb, .arr 1 [.ptr w 1 0 0]), (lb, .arr 1 [actsD l])] : Store) := List.append_nil _
  refine Goes.le (σ' := (w, .arr 1 [.agg [.v (.slice none 0 0)]]) :: [(wb, .arr 1 [.ptr w 1 0 0]), (lb, .arr 1 [actsD l])]) (ELe.refl _) (SLe.cons ?_ (SLe.cons (sget_self ..) (SLe.cons ?_ (SLe.nil _)))) ?_
  · rw [sget_cons, if_neg h2.symm, sget_self]
  · rw [sget_cons, if_neg h3.symm, sget_cons, if_neg h1.symm, sget_self]; rfl
  refine Goes.row_le (ys := [.agg [.own none 1 0]]) (fun w S vs h => ?_) (fun y hy => by simp at hy; rw [hy]; rfl) ?_
  · obtain ⟨x, xs, rfl, hx, ht⟩ := h.cons_inv
    exact .cons (DLe.nil_own 1 _ _ _ hx) ht
  have hst : St w [] [(wb, .arr 1 [.ptr w 1 0 0]), (lb, .arr 1 [actsD l])] ((w, .arr 1 [.agg [.own none 1 0]]) :: [(wb, .arr 1 [.ptr w 1 0 0]), (lb, .arr 1 [actsD l])]) :=
    ⟨none, ⟨by simp, fun _ => rfl⟩, rfl, Apart.cons (by simp [wst, cellsOf, sget, h2]) (Apart.cons (by simp [wst, cellsOf, sget, h1.symm]) (Apart.nil _))⟩
  have hwr := writes_calls w wb lb l [] hρ.symm h3.symm hst hfit hl hm
  have hpt : ∀ bs σ', St w bs [(wb, .arr 1 [.ptr w 1 0 0]), (lb, .arr 1 [actsD l])] σ' → sget wb σ' = some (.arr 1 [.ptr w 1 0 0]) := fun bs σ' h => h.keep (sget_self ..)
  generalize hσ : ((w, .arr 1 [.agg [.own none 1 0]]) :: [(wb, .arr 1 [.ptr w 1 0 0]), (lb, .arr 1 [actsD l])] : Store) = σw at hwr ⊢
  refine Goes.seq ?_
  refine Goes.region [1, 2, 3, 4] fun K hK => ?_; simp (maxSteps := 4000000) only [go_sem, ↓reduceIte, reduceCtorEq, Nat.reduceEqDiff, Nat.reduceBEq, Int.reduceBEq, Int.reduceBNe, Nat.reduceLT, Nat.reduceLeDiff, Nat.reduceAdd, Nat.reduceSub, Nat.reduceMul, Int.reduceToNat, Int.reduceEq, Int.reduceLT, Int.reduceLE]
  refine ⟨_, Try.call16, guarded_calls 17 _ _ Try.call17 hwr fun e σ' hR => ?_⟩
  by_cases hc : firstWrong l = 0
  · rw [if_pos hc] at hR
    obtain ⟨rfl, hst1⟩ := hR
    refine .inl ⟨rfl, ?_⟩
    have hp := hpt _ _ hst1
    simp only [go_sem, ↓reduceIte, reduceCtorEq, Nat.reduceEqDiff, Nat.reduceBEq, Int.reduceBEq, Int.reduceBNe, Nat.reduceLT, Nat.reduceLeDiff, Nat.reduceAdd, Nat.reduceSub, Nat.reduceMul, Int.reduceToNat, Int.reduceEq, Int.reduceLT, Int.reduceLE]
    refine hK _ _ ?_; clear hK K
    repeat' (first | refine Goes.seq ?_ | refine Goes.skip ?_ | refine Goes.inBlock ?_ | refine Goes.block ?_ | refine Goes.exit rfl ?_ | (refine Goes.region [2, 3, 4, 5] fun K hK => ?_; simp (maxSteps := 4000000) only [go_sem, ↓reduceIte, reduceCtorEq, Nat.reduceEqDiff, Nat.reduceBEq, Int.reduceBEq, Int.reduceBNe, Nat.reduceLT, Nat.reduceLeDiff, Nat.reduceAdd, Nat.reduceSub, Nat.reduceMul, Int.reduceToNat, Int.reduceEq, Int.reduceLT, Int.reduceLE]; refine hK _ _ ?_; clear hK K))
    refine Goes.condF rfl ?_
    refine Goes.skip ?_
    obtain ⟨o, hok, rfl, hap⟩ := hst1.ex
    have hb := sget_append_some (ρ := [(wb, .arr 1 [.ptr w 1 0 0]), (lb, .arr 1 [actsD l])]) (wst_box hok)
    refine Goes.seq ?_
    refine Goes.region [2, 3, 4] fun K hK => ?_; simp (maxSteps := 4000000) only [go_sem, ↓reduceIte, reduceCtorEq, Nat.reduceEqDiff, Nat.reduceBEq, Int.reduceBEq, Int.reduceBNe, Nat.reduceLT, Nat.reduceLeDiff, Nat.reduceAdd, Nat.reduceSub, Nat.reduceMul, Int.reduceToNat, Int.reduceEq, Int.reduceLT, Int.reduceLE, hp, hb]
    refine hK _ _ ?_; clear hK K
    refine Goes.le (σ' := cellsOf o 1 ((allBytes l).map bD)) (ELe.refl _) ?_ ?_
    · refine SLe.trans ?_ (SLe.append_left _ _)
      exact SLe.append_left _ _
    refine Goes.ret hC Try.func8 (by simp [go_sem]) ?_
    simp only [go_sem, ↓reduceIte, reduceCtorEq, Nat.reduceEqDiff, Nat.reduceBEq, Int.reduceBEq, Int.reduceBNe, Nat.reduceLT, Nat.reduceLeDiff, Nat.reduceAdd, Nat.reduceSub, Nat.reduceMul, Int.reduceToNat, Int.reduceEq, Int.reduceLT, Int.reduceLE]
    rw [if_pos hc]
    exact ⟨o, rfl, hok.2, rfl⟩
  · rw [if_neg hc] at hR
    obtain ⟨rfl, rfl⟩ := hR
    refine .inr ⟨_, rfl, ?_⟩
    simp only [go_sem, ↓reduceIte, reduceCtorEq, Nat.reduceEqDiff, Nat.reduceBEq, Int.reduceBEq, Int.reduceBNe, Nat.reduceLT, Nat.reduceLeDiff, Nat.reduceAdd, Nat.reduceSub, Nat.reduceMul, Int.reduceToNat, Int.reduceEq, Int.reduceLT, Int.reduceLE]
    refine hK _ _ ?_; clear hK K
    repeat' (first | refine Goes.seq ?_ | refine Goes.skip ?_ | refine Goes.inBlock ?_ | refine Goes.block ?_ | refine Goes.exit rfl ?_ | (refine Goes.region [2, 3, 4, 5] fun K hK => ?_; simp (maxSteps := 4000000) only [go_sem, ↓reduceIte, reduceCtorEq, Nat.reduceEqDiff, Nat.reduceBEq, Int.reduceBEq, Int.reduceBNe, Nat.reduceLT, Nat.reduceLeDiff, Nat.reduceAdd, Nat.reduceSub, Nat.reduceMul, Int.reduceToNat, Int.reduceEq, Int.reduceLT, Int.reduceLE]; refine hK _ _ ?_; clear hK K))
    have hb : (firstWrong l != 0) = true := by simpa using hc
    refine Goes.cond rfl (fun _ => ?_) (fun h => by rw [hb] at h; cases h)
    refine Goes.seq ?_
    refine Goes.region [5] fun K hK => ?_; simp (maxSteps := 4000000) only [go_sem, ↓reduceIte, reduceCtorEq, Nat.reduceEqDiff, Nat.reduceBEq, Int.reduceBEq, Int.reduceBNe, Nat.reduceLT, Nat.reduceLeDiff, Nat.reduceAdd, Nat.reduceSub, Nat.reduceMul, Int.reduceToNat, Int.reduceEq, Int.reduceLT, Int.reduceLE]
    refine hK _ _ ?_; clear hK K
    refine Goes.le (σ' := []) (ELe.refl _) (SLe.nil _) ?_
    refine Goes.ret hC Try.func8 (by simp [go_sem]) ?_
    simp only [go_sem, ↓reduceIte, reduceCtorEq, Nat.reduceEqDiff, Nat.reduceBEq, Int.reduceBEq, Int.reduceBNe, Nat.reduceLT, Nat.reduceLeDiff, Nat.reduceAdd, Nat.reduceSub, Nat.reduceMul, Int.reduceToNat, Int.reduceEq, Int.reduceLT, Int.reduceLE]
    rw [if_neg hc]
    trivial
end Go.Ab.S21
