/- Layer 21: ScriptWrites, as the abstract machine tells it. -/
import Derived.Test.YtcpcfglccnmmnaaS21E
set_option linter.unusedSimpArgs false
set_option linter.unusedVariables false
set_option linter.constructorNameAsVariable false
namespace Go.Ab.S21
open Go Go.Proofs


theorem opt_len (f : Bool) (l : List UInt8) (n : Nat) (h : l.length ≤ n) : (opt f l).length ≤ n := by
  unfold opt; split <;> simp_all

theorem light_fits {x : XAct} (h : light1 x = true) : x.Fits ∧ x.bytes.length ≤ 4000 := by
  rw [light1_iff] at h
  obtain ⟨h1, h2, h3, h4, h5⟩ := h
  refine ⟨⟨by omega, by omega, by omega, fun s hs => by have := h5 s hs; omega, by omega⟩, ?_⟩
  obtain ⟨f0, f1, f2, f3, f4, kn, hF, _⟩ := fields_cases x.kind
  have ltx : ∀ s : ByteArray, (tx s).length = 2 + s.size := fun s => by simp [tx, le]
  have l3' := flatMap_length_le tx 122 x.names fun s hs => by rw [ltx]; have := h5 s hs; omega
  have l4' := flatMap_length_le n32 4 x.tails fun s _ => by rw [n32_len]; exact Nat.le_refl _
  have l0 := opt_len f0 (tx x.name) 122 (by rw [ltx]; omega)
  have l1 := opt_len f1 (tx ⟨x.by_.toArray⟩) 2002 (by rw [ltx, size_mk]; omega)
  have l2 := opt_len f2 (n32 x.num) 4 (by rw [n32_len]; exact Nat.le_refl _)
  have l3 := opt_len f3 (n32 x.names.length ++ x.names.flatMap tx) 614 (by rw [List.length_append, n32_len]; omega)
  have l4 := opt_len f4 (n32 x.tails.length ++ x.tails.flatMap n32) 44 (by rw [List.length_append, n32_len]; omega)
  unfold XAct.bytes
  rw [hF]
  simp only [List.length_append, List.length_singleton]
  omega

theorem light_all {l : List XAct} (h : lightB l = true) : l.length ≤ 40 ∧ ∀ x ∈ l, light1 x = true := by
  simpa [lightB] using h

theorem light_bytes {l : List XAct} (h : ∀ x ∈ l, light1 x = true) : (allBytes l).length ≤ l.length * 4000 :=
  flatMap_length_le _ _ _ fun x hx => (light_fits (h x hx)).2

/-- script.Write, its bytes only read from then on. -/
theorem write_slc (l : List XAct) (σ : Store) (hfit : ∀ x ∈ l, x.Fits) (hl : (allBytes l).length < 2 ^ 36) (hm : l.length < 2 ^ 30) :
    ACalls Try.prog 8 [actsD l] σ (fun e σ' => e = .ret (if firstWrong l = 0 then .tup [.slc ((allBytes l).map bD), .v (.int .i64 0)] else .tup [.slc [], .v (.int .i64 (firstWrong l))]) ∧ σ' = σ) := by
  have h2 : ACalls Try.prog 8 [actsD l] [] (fun e σ' => (e = .ret (if firstWrong l = 0 then .tup [.slc ((allBytes l).map bD), .v (.int .i64 0)] else .tup [.slc [], .v (.int .i64 (firstWrong l))]) ∧ σ' = []) ∨
      ∃ b, firstWrong l = 0 ∧ e = .ret (.tup [.own (some b) 1 (allBytes l).length, .v (.int .i64 0)]) ∧ σ' = [(b, .arr 1 ((allBytes l).map bD))]) := by
    refine (write_calls l [] hfit hl hm).ret_le fun e σ' hR => ?_
    by_cases hc : firstWrong l = 0
    · rw [if_pos hc] at hR
      obtain ⟨o, rfl, hf, hz, rfl⟩ := hR
      cases o with
      | some b => exact .inl (.inr ⟨b, hc, rfl, by simp [cellsOf]⟩)
      | none =>
        refine .inr ⟨_, .tup [.slc [], .v (.int .i64 0)], rfl, fun w S v h => ?_, .inl ⟨?_, rfl⟩⟩
        · cases h with
          | tup h =>
            obtain ⟨a, r, rfl, h1, h2⟩ := h.cons_inv
            exact .tup (.cons (DLe.own_slc _ _ _ _ _ h1) h2)
        · rw [if_pos hc, hz rfl]; rfl
    · rw [if_neg hc] at hR
      obtain ⟨rfl, rfl⟩ := hR
      refine .inr ⟨_, .tup [.slc [], .v (.int .i64 (firstWrong l))], rfl, fun w S v h => ?_, .inl ⟨by rw [if_neg hc], rfl⟩⟩
      cases h with
      | tup h =>
        obtain ⟨a, r, rfl, h1, h2⟩ := h.cons_inv
        exact .tup (.cons (DLe.nil_slc _ _ _ h1) h2)
  refine h2.pub1 (R' := fun e => e = .ret (if firstWrong l = 0 then .tup [.slc ((allBytes l).map bD), .v (.int .i64 0)] else .tup [.slc [], .v (.int .i64 (firstWrong l))])) (fun e σ' hR => ?_) σ
  rcases hR with h3 | ⟨b, hc, rfl, rfl⟩
  · exact .inl h3
  · refine .inr ⟨_, b, 1, _, rfl, rfl, ?_⟩
    rw [if_pos hc]
    simp only [D.pub, pubs, true_and]
    rw [if_pos (by simp), List.take_of_length_le (by simp)]

theorem law_writes (l : List XAct) : ACalls Try.prog 3 [actsD l] [] (fun e _ => e = .ret (.v (.bool true))) := by
  have hlen : (l.map XAct.d).length = l.length := List.length_map ..
  refine ACalls.of_body Try.func3 rfl Try.ntmps3 (by simp) fun C hC => ?_
  have ret : ∀ k env σ, eget 2 env = .v (.bool true) → Goes C (.code .ret :: k) env σ := fun k env σ h1 => by
    refine Goes.ret hC Try.func3 (by simp [go_sem]) ?_
    simp only [go_sem, ↓reduceIte, reduceCtorEq, Nat.reduceEqDiff, Nat.reduceBEq, Int.reduceBEq, Int.reduceBNe, Nat.reduceLT, Nat.reduceLeDiff, Nat.reduceAdd, Nat.reduceSub, Nat.reduceMul, Int.reduceToNat, Int.reduceEq, Int.reduceLT, Int.reduceLE, h1]
  refine Goes.seq ?_
  refine Goes.region [0] fun K hK => ?_; simp (maxSteps := 4000000) only [go_sem, ↓reduceIte, reduceCtorEq, Nat.reduceEqDiff, Nat.reduceBEq, Int.reduceBEq, Int.reduceBNe, Nat.reduceLT, Nat.reduceLeDiff, Nat.reduceAdd, Nat.reduceSub, Nat.reduceMul, Int.reduceToNat, Int.reduceEq, Int.reduceLT, Int.reduceLE]
  refine hK _ _ ?_; clear hK K
  refine Goes.seq ?_
  refine Goes.seq ?_
  refine Goes.region [0, 2] fun K hK => ?_; simp (maxSteps := 4000000) only [go_sem, ↓reduceIte, reduceCtorEq, Nat.reduceEqDiff, Nat.reduceBEq, Int.reduceBEq, Int.reduceBNe, Nat.reduceLT, Nat.reduceLeDiff, Nat.reduceAdd, Nat.reduceSub, Nat.reduceMul, Int.reduceToNat, Int.reduceEq, Int.reduceLT, Int.reduceLE]
  refine ⟨_, Try.call7, (light_calls l _).mono ?_⟩
  rintro e σ1 ⟨rfl, rfl⟩
  simp only [go_sem, ↓reduceIte, reduceCtorEq, Nat.reduceEqDiff, Nat.reduceBEq, Int.reduceBEq, Int.reduceBNe, Nat.reduceLT, Nat.reduceLeDiff, Nat.reduceAdd, Nat.reduceSub, Nat.reduceMul, Int.reduceToNat, Int.reduceEq, Int.reduceLT, Int.reduceLE]
  refine hK _ _ (Goes.cond rfl (fun h => ?_) (fun h => ?_)); all_goals clear hK K
  · repeat' (first | refine Goes.seq ?_ | refine Goes.skip ?_ | refine Goes.inBlock ?_ | refine Goes.block ?_ | refine Goes.exit rfl ?_ | (refine Goes.region [0, 2] fun K hK => ?_; simp (maxSteps := 4000000) only [go_sem, ↓reduceIte, reduceCtorEq, Nat.reduceEqDiff, Nat.reduceBEq, Int.reduceBEq, Int.reduceBNe, Nat.reduceLT, Nat.reduceLeDiff, Nat.reduceAdd, Nat.reduceSub, Nat.reduceMul, Int.reduceToNat, Int.reduceEq, Int.reduceLT, Int.reduceLE]; refine hK _ _ ?_; clear hK K))
    exact ret _ _ _ rfl
  have hL : lightB l = true := by simpa using h
  obtain ⟨h40, hall⟩ := light_all hL
  have hfit : ∀ x ∈ l, x.Fits := fun x hx => (light_fits (hall x hx)).1
  have hab := light_bytes hall
  refine Goes.skip ?_
  refine Goes.seq ?_
  refine Goes.region [0, 2] fun K hK => ?_; simp (maxSteps := 4000000) only [go_sem, ↓reduceIte, reduceCtorEq, Nat.reduceEqDiff, Nat.reduceBEq, Int.reduceBEq, Int.reduceBNe, Nat.reduceLT, Nat.reduceLeDiff, Nat.reduceAdd, Nat.reduceSub, Nat.reduceMul, Int.reduceToNat, Int.reduceEq, Int.reduceLT, Int.reduceLE]
  refine ⟨_, Try.call9, (of_calls l _ (by omega) fun x hx => by have := hfit x hx; exact ⟨by have := this.by_; omega, by have := this.many; omega, by have := this.tails; omega⟩).mono ?_⟩
  rintro e σ1 ⟨rfl, rfl⟩
  simp only [go_sem, ↓reduceIte, reduceCtorEq, Nat.reduceEqDiff, Nat.reduceBEq, Int.reduceBEq, Int.reduceBNe, Nat.reduceLT, Nat.reduceLeDiff, Nat.reduceAdd, Nat.reduceSub, Nat.reduceMul, Int.reduceToNat, Int.reduceEq, Int.reduceLT, Int.reduceLE]
  refine ⟨_, Try.call8, (write_slc l _ hfit (by omega) (by omega)).mono ?_⟩
  rintro e σ1 ⟨rfl, rfl⟩
  generalize hW : (if firstWrong l = 0 then D.tup [.slc ((allBytes l).map bD), .v (.int .i64 0)] else .tup [.slc [], .v (.int .i64 (firstWrong l))]) = W
  obtain ⟨bw, hW2, hbw⟩ : ∃ bw : List UInt8, W = .tup [.slc (bw.map bD), .v (.int .i64 (firstWrong l))] ∧ bw = if firstWrong l = 0 then allBytes l else [] := by
    by_cases hc : firstWrong l = 0
    · rw [if_pos hc] at hW ⊢; exact ⟨_, by rw [← hW, hc], rfl⟩
    · rw [if_neg hc] at hW ⊢; exact ⟨[], by rw [← hW]; rfl, rfl⟩
  subst hW2
  simp only [go_sem, ↓reduceIte, reduceCtorEq, Nat.reduceEqDiff, Nat.reduceBEq, Int.reduceBEq, Int.reduceBNe, Nat.reduceLT, Nat.reduceLeDiff, Nat.reduceAdd, Nat.reduceSub, Nat.reduceMul, Int.reduceToNat, Int.reduceEq, Int.reduceLT, Int.reduceLE]
  refine hK _ _ ?_; clear hK K
  refine Goes.seq ?_
  refine Goes.region [0, 2, 3, 4] fun K hK => ?_; simp (maxSteps := 4000000) only [go_sem, ↓reduceIte, reduceCtorEq, Nat.reduceEqDiff, Nat.reduceBEq, Int.reduceBEq, Int.reduceBNe, Nat.reduceLT, Nat.reduceLeDiff, Nat.reduceAdd, Nat.reduceSub, Nat.reduceMul, Int.reduceToNat, Int.reduceEq, Int.reduceLT, Int.reduceLE]
  refine hK _ _ ?_; clear hK K
  refine Goes.seq ?_
  refine Goes.seq ?_
  refine Goes.region [0, 2, 3, 4, 5] fun K hK => ?_; simp (maxSteps := 4000000) only [go_sem, ↓reduceIte, reduceCtorEq, Nat.reduceEqDiff, Nat.reduceBEq, Int.reduceBEq, Int.reduceBNe, Nat.reduceLT, Nat.reduceLeDiff, Nat.reduceAdd, Nat.reduceSub, Nat.reduceMul, Int.reduceToNat, Int.reduceEq, Int.reduceLT, Int.reduceLE]
  refine hK _ _ ?_; clear hK K
  refine Goes.rebase [0, 2, 3, 4, 5, 6] ?_
  simp only [go_sem, ↓reduceIte, reduceCtorEq, Nat.reduceEqDiff, Nat.reduceBEq, Int.reduceBEq, Int.reduceBNe, Nat.reduceLT, Nat.reduceLeDiff, Nat.reduceAdd, Nat.reduceSub, Nat.reduceMul, Int.reduceToNat, Int.reduceEq, Int.reduceLT, Int.reduceLE]
  refine Goes.env_le (env' := [(0, actsD l), (2, .any), (3, .slc (bw.map bD)), (4, .v (.int .i64 (firstWrong l))), (5, .own none 1 0), (6, .v (.int .i64 0))]) ?_ (fun k => ?_)
  rotate_left
  · simp only [eget]
    repeat' split
    all_goals first | exact DLe.refl _ | exact DLe.any _ | exact DLe.nil_own 1
  refine Goes.block ?_
  refine Goes.while (fun (i : Nat) env' σ' => i ≤ l.length ∧ (∀ x ∈ l.take i, x.wrong = 0) ∧ ∃ o, Gr o (allBytes (l.take i)) [] ∧ env' = [(0, actsD l), (2, .any), (3, .slc (bw.map bD)), (4, .v (.int .i64 (firstWrong l))), (5, .own o 1 (allBytes (l.take i)).length), (6, .v (.int .i64 (i : Int)))] ∧
    σ' = cellsOf o 1 ((allBytes (l.take i)).map bD) ++ []) (fun i => l.length - i) 0 ⟨by omega, by simp, none, Gr.nil _, by simp [allBytes], by simp [allBytes, cellsOf]⟩ ?_
  rintro i env' σ' ⟨hi, hw0, o, hg, rfl, rfl⟩ ih
  unfold actsD
  refine Goes.seq ?_
  refine Goes.seq ?_
  refine Goes.region [0, 2, 3, 4, 5, 6] fun K hK => ?_; simp (maxSteps := 4000000) only [go_sem, ↓reduceIte, reduceCtorEq, Nat.reduceEqDiff, Nat.reduceBEq, Int.reduceBEq, Int.reduceBNe, Nat.reduceLT, Nat.reduceLeDiff, Nat.reduceAdd, Nat.reduceSub, Nat.reduceMul, Int.reduceToNat, Int.reduceEq, Int.reduceLT, Int.reduceLE]
  refine hK _ _ (Goes.cond rfl (fun h => ?_) (fun h => ?_)); all_goals clear hK K
  · have hlt : i < l.length := by simpa [hlen] using h
    have hgx := getD_map_lt XAct.d l i hlt
    have hxf := hfit _ (List.getElem_mem hlt)
    have hi0 : (0 : Int) ≤ (i : Int) := by omega
    have hi1 : (i : Int) < ((l.map XAct.d).length : Int) := by omega
    have hcl : l[i].d.cells.length = 6 := rfl
    have hgt : D.agg (l[i].d.cells.take 6) = l[i].d := rfl
    refine Goes.skip ?_
    refine Goes.seq ?_
    refine Goes.block ?_
    refine Goes.seq ?_
    refine Goes.seq ?_
    refine Goes.region [0, 2, 3, 4, 5, 6] fun K hK => ?_; simp (maxSteps := 4000000) only [go_sem, ↓reduceIte, reduceCtorEq, Nat.reduceEqDiff, Nat.reduceBEq, Int.reduceBEq, Int.reduceBNe, Nat.reduceLT, Nat.reduceLeDiff, Nat.reduceAdd, Nat.reduceSub, Nat.reduceMul, Int.reduceToNat, Int.reduceEq, Int.reduceLT, Int.reduceLE, hgx, hi0, hi1, hcl, hgt]
    refine ⟨_, Try.call10, (wrong_calls l[i] hxf _).mono ?_⟩
    rintro e σ1 ⟨rfl, rfl⟩
    simp only [go_sem, ↓reduceIte, reduceCtorEq, Nat.reduceEqDiff, Nat.reduceBEq, Int.reduceBEq, Int.reduceBNe, Nat.reduceLT, Nat.reduceLeDiff, Nat.reduceAdd, Nat.reduceSub, Nat.reduceMul, Int.reduceToNat, Int.reduceEq, Int.reduceLT, Int.reduceLE]
    refine hK _ _ ?_; clear hK K
    refine Goes.seq ?_
    refine Goes.region [0, 2, 3, 4, 5, 6, 7] fun K hK => ?_; simp (maxSteps := 4000000) only [go_sem, ↓reduceIte, reduceCtorEq, Nat.reduceEqDiff, Nat.reduceBEq, Int.reduceBEq, Int.reduceBNe, Nat.reduceLT, Nat.reduceLeDiff, Nat.reduceAdd, Nat.reduceSub, Nat.reduceMul, Int.reduceToNat, Int.reduceEq, Int.reduceLT, Int.reduceLE]
    refine hK _ _ (Goes.cond rfl (fun h => ?_) (fun h => ?_)); all_goals clear hK K
    · have hwi : l[i].wrong ≠ 0 := by simpa using h
      have hfw := firstWrong_at l i hlt hw0 hwi
      have hb0 : bw = [] := by rw [hbw, if_neg (by rw [hfw]; exact hwi)]
      subst hb0
      have hq : (l[i].wrong == l[i].wrong) = true := beq_self_eq_true _
      refine Goes.seq ?_
      rw [hfw]
      refine Goes.region [3, 4, 7] fun K hK => ?_; simp (maxSteps := 4000000) only [go_sem, ↓reduceIte, reduceCtorEq, Nat.reduceEqDiff, Nat.reduceBEq, Int.reduceBEq, Int.reduceBNe, Nat.reduceLT, Nat.reduceLeDiff, Nat.reduceAdd, Nat.reduceSub, Nat.reduceMul, Int.reduceToNat, Int.reduceEq, Int.reduceLT, Int.reduceLE, hq]
      refine ⟨_, Try.call11, (awake_calls _).mono ?_⟩
      rintro e σ1 ⟨rfl, rfl⟩
      simp only [go_sem, ↓reduceIte, reduceCtorEq, Nat.reduceEqDiff, Nat.reduceBEq, Int.reduceBEq, Int.reduceBNe, Nat.reduceLT, Nat.reduceLeDiff, Nat.reduceAdd, Nat.reduceSub, Nat.reduceMul, Int.reduceToNat, Int.reduceEq, Int.reduceLT, Int.reduceLE]
      refine hK _ _ ?_
      exact ret _ _ _ rfl
    · have hwi : l[i].wrong = 0 := by simpa using h
      refine Goes.skip ?_
      have ho := hg.oget
      have hd := hg.sdel
      rw [List.append_nil] at ho hd
      have htk := take_map_bD (allBytes (l.take i))
      refine Goes.region [0, 2, 3, 4, 5, 6] fun K hK => ?_; simp (maxSteps := 4000000) only [go_sem, ↓reduceIte, reduceCtorEq, Nat.reduceEqDiff, Nat.reduceBEq, Int.reduceBEq, Int.reduceBNe, Nat.reduceLT, Nat.reduceLeDiff, Nat.reduceAdd, Nat.reduceSub, Nat.reduceMul, Int.reduceToNat, Int.reduceEq, Int.reduceLT, Int.reduceLE, hgx, hi0, hi1, hcl, hgt]
      refine ⟨_, Try.call12, (wbytes_calls l[i] hxf _).mono ?_⟩
      rintro e σ1 ⟨rfl, rfl⟩
      simp only [go_sem, ↓reduceIte, reduceCtorEq, Nat.reduceEqDiff, Nat.reduceBEq, Int.reduceBEq, Int.reduceBNe, Nat.reduceLT, Nat.reduceLeDiff, Nat.reduceAdd, Nat.reduceSub, Nat.reduceMul, Int.reduceToNat, Int.reduceEq, Int.reduceLT, Int.reduceLE, ho, hd, htk]
      have hpre : (allBytes (l.take i)).length ≤ (allBytes l).length := by
        unfold allBytes
        conv => rhs; rw [← List.take_append_drop i l, List.flatMap_append, List.length_append]
        omega
      have hbl := (light_fits (hall _ (List.getElem_mem hlt))).2
      refine ⟨⟨by simp, plain_mapF bD 1 (fun _ => ⟨rfl, rfl⟩) _, by simp; omega, by simp; omega⟩, fun ob hz hf => hK _ _ ?_⟩; clear hK K
      have hg2 := hg.app hz hf
      have hx3 : allBytes (l.take (i + 1)) = allBytes (l.take i) ++ l[i].bytes := take_succ_flatMap _ l i hlt
      rw [← hx3] at hg2
      repeat' (first | refine Goes.seq ?_ | refine Goes.skip ?_ | refine Goes.inBlock ?_ | refine Goes.block ?_ | refine Goes.exit rfl ?_ | (refine Goes.region [0, 2, 3, 4, 5, 6] fun K hK => ?_; simp (maxSteps := 4000000) only [go_sem, ↓reduceIte, reduceCtorEq, Nat.reduceEqDiff, Nat.reduceBEq, Int.reduceBEq, Int.reduceBNe, Nat.reduceLT, Nat.reduceLeDiff, Nat.reduceAdd, Nat.reduceSub, Nat.reduceMul, Int.reduceToNat, Int.reduceEq, Int.reduceLT, Int.reduceLE]; refine hK _ _ ?_; clear hK K))
      refine Goes.rebase [0, 2, 3, 4, 5, 6] ?_
      simp only [go_sem, ↓reduceIte, reduceCtorEq, Nat.reduceEqDiff, Nat.reduceBEq, Int.reduceBEq, Int.reduceBNe, Nat.reduceLT, Nat.reduceLeDiff, Nat.reduceAdd, Nat.reduceSub, Nat.reduceMul, Int.reduceToNat, Int.reduceEq, Int.reduceLT, Int.reduceLE]
      rw [wrap_succ i (by omega)]
      refine ih (i + 1) _ _ ⟨by omega, ?_, ob, hg2, ?_, ?_⟩ (by omega)
      · rw [List.take_succ_eq_append_getElem hlt]
        intro x hx
        rcases List.mem_append.1 hx with hx | hx
        · exact hw0 x hx
        · simp only [List.mem_singleton] at hx; rw [hx]; exact hwi
      · rw [hx3]; simp [actsD]
      · rw [hx3]; simp
  · have hge : ¬ i < l.length := by simpa [hlen] using h
    have : i = l.length := by omega
    subst this
    rw [List.take_length] at hw0 hg ⊢
    have hfw := firstWrong_none l hw0
    rw [if_pos hfw] at hbw
    subst hbw
    have ho := hg.oget
    rw [List.append_nil] at ho
    have htk := take_map_bD (allBytes l)
    have hab2 := allByte_bD (allBytes l)
    have hq : ((bytesOf ((allBytes l).map bD)).toList == (bytesOf ((allBytes l).map bD)).toList) = true := beq_self_eq_true _
    rw [hfw]
    repeat' (first | refine Goes.seq ?_ | refine Goes.skip ?_ | refine Goes.inBlock ?_ | refine Goes.block ?_ | refine Goes.exit rfl ?_ | (refine Goes.region [0] fun K hK => ?_; simp (maxSteps := 4000000) only [go_sem, ↓reduceIte, reduceCtorEq, Nat.reduceEqDiff, Nat.reduceBEq, Int.reduceBEq, Int.reduceBNe, Nat.reduceLT, Nat.reduceLeDiff, Nat.reduceAdd, Nat.reduceSub, Nat.reduceMul, Int.reduceToNat, Int.reduceEq, Int.reduceLT, Int.reduceLE]; refine hK _ _ ?_; clear hK K))
    refine Goes.region [3, 4, 5] fun K hK => ?_; simp (maxSteps := 4000000) only [go_sem, ↓reduceIte, reduceCtorEq, Nat.reduceEqDiff, Nat.reduceBEq, Int.reduceBEq, Int.reduceBNe, Nat.reduceLT, Nat.reduceLeDiff, Nat.reduceAdd, Nat.reduceSub, Nat.reduceMul, Int.reduceToNat, Int.reduceEq, Int.reduceLT, Int.reduceLE, ho, htk, hab2, hq]
    refine ⟨by simp, _, Try.call11, (awake_calls _).mono ?_⟩
    rintro e σ1 ⟨rfl, rfl⟩
    simp only [go_sem, ↓reduceIte, reduceCtorEq, Nat.reduceEqDiff, Nat.reduceBEq, Int.reduceBEq, Int.reduceBNe, Nat.reduceLT, Nat.reduceLeDiff, Nat.reduceAdd, Nat.reduceSub, Nat.reduceMul, Int.reduceToNat, Int.reduceEq, Int.reduceLT, Int.reduceLE]
    refine hK _ _ ?_
    exact ret _ _ _ rfl
end Go.Ab.S21
