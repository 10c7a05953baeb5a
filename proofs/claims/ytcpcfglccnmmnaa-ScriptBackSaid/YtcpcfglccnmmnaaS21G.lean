/- Layer 21: ScriptJoins, as the abstract machine tells it. -/
import Derived.Test.YtcpcfglccnmmnaaS21F
set_option linter.unusedSimpArgs false
set_option linter.unusedVariables false
set_option linter.constructorNameAsVariable false
namespace Go.Ab
open Go
/-- A row of one's own is handed to a call that only reads it. -/
theorem ACalls.give {P : Program} {f : FuncId} {args : List D} {σ : Store} {R : AEnd → Store → Prop} {b sz : Nat} {xs : List D} (hb : sget b σ = some (.arr sz xs)) (h : ACalls P f (args.map (D.pub b sz xs)) (spub b sz xs σ) R) : ACalls P f args σ R := by
  intro w S vs hS hst hv
  obtain ⟨hE, hst2, hfr⟩ := pub_world hst hS hb
  have hv2 : RepL w (fun k => S k ∨ k = b) (args.map (D.pub b sz xs)) vs := by
    rw [← pubs_map]; exact repL_pub hE (.inr rfl) (hst b _ hb).2 hv
  refine (h w _ vs hfr.lt hst2 hv2).mono ?_
  rintro e w' ⟨ae, σ', S', hR, hend, hst', hfr'⟩
  exact ⟨ae, σ', S', hR, hend, hst', hfr.trans hfr'⟩
end Go.Ab
namespace Go.Ab.S21
open Go Go.Proofs

theorem firstWrong_append : ∀ (a b : List XAct), firstWrong (a ++ b) = if firstWrong a = 0 then firstWrong b else firstWrong a
  | [], b => by simp [firstWrong]
  | x :: a, b => by
    rw [List.cons_append, firstWrong, firstWrong, firstWrong_append a b]
    by_cases hx : x.wrong = 0
    · simp only [hx, if_true]
    · simp only [hx, if_false]
theorem allBytes_append (a b : List XAct) : allBytes (a ++ b) = allBytes a ++ allBytes b := List.flatMap_append ..


def writeEnd (l : List XAct) : D := .tup [.slc ((if firstWrong l = 0 then allBytes l else []).map bD), .v (.int .i64 (firstWrong l))]
theorem writeEnd_eq (l : List XAct) : (if firstWrong l = 0 then D.tup [.slc ((allBytes l).map bD), .v (.int .i64 0)] else .tup [.slc [], .v (.int .i64 (firstWrong l))]) = writeEnd l := by
  unfold writeEnd
  by_cases hc : firstWrong l = 0
  · rw [if_pos hc, if_pos hc, hc]
  · rw [if_neg hc, if_neg hc]; rfl

theorem write_owned (l : List XAct) (o : Option Nat) (hg : GrD o 6 (l.map XAct.d) []) (hfit : ∀ x ∈ l, x.Fits) (hl : (allBytes l).length < 2 ^ 36) (hm : l.length < 2 ^ 30) :
    ACalls Try.prog 8 [.own o 6 l.length] (cellsOf o 6 (l.map XAct.d)) (fun e σ' => e = .ret (writeEnd l) ∧ σ' = []) := by
  have hw : ∀ σ, ACalls Try.prog 8 [actsD l] σ (fun e σ' => e = .ret (writeEnd l) ∧ σ' = σ) := fun σ => by
    have := write_slc l σ hfit hl hm
    rw [writeEnd_eq] at this
    exact this
  cases o with
  | none =>
    have : l = [] := by simpa using hg.zero rfl
    subst this
    exact (hw []).args_le fun w S vs h => by
      obtain ⟨v, r, rfl, h1, h2⟩ := h.cons_inv
      exact .cons (DLe.own_slc _ _ _ _ _ h1) h2
  | some b =>
    refine ACalls.give (b := b) (sz := 6) (xs := l.map XAct.d) (sget_self ..) ?_
    have e1 : List.map (D.pub b 6 (l.map XAct.d)) [.own (some b) 6 l.length] = [actsD l] := by
      simp only [List.map_cons, List.map_nil, D.pub, true_and]
      rw [if_pos (by simp), List.take_of_length_le (by simp)]; rfl
    have e2 : spub b 6 (l.map XAct.d) (cellsOf (some b) 6 (l.map XAct.d)) = [] := by simp [cellsOf, spub]
    rw [e1, e2]
    exact hw []

theorem law_joins (a b : List XAct) : ACalls Try.prog 4 [actsD a, actsD b] [] (fun e _ => e = .ret (.v (.bool true))) := by
  refine ACalls.of_body Try.func4 rfl Try.ntmps4 (by simp) fun C hC => ?_
  have ret : ∀ k env σ, eget 4 env = .v (.bool true) → Goes C (.code .ret :: k) env σ := fun k env σ h1 => by
    refine Goes.ret hC Try.func4 (by simp [go_sem]) ?_
    simp only [go_sem, ↓reduceIte, reduceCtorEq, Nat.reduceEqDiff, Nat.reduceBEq, Int.reduceBEq, Int.reduceBNe, Nat.reduceLT, Nat.reduceLeDiff, Nat.reduceAdd, Nat.reduceSub, Nat.reduceMul, Int.reduceToNat, Int.reduceEq, Int.reduceLT, Int.reduceLE, h1]
  refine Goes.seq ?_
  refine Goes.region [0, 1] fun K hK => ?_; simp (maxSteps := 4000000) only [go_sem, ↓reduceIte, reduceCtorEq, Nat.reduceEqDiff, Nat.reduceBEq, Int.reduceBEq, Int.reduceBNe, Nat.reduceLT, Nat.reduceLeDiff, Nat.reduceAdd, Nat.reduceSub, Nat.reduceMul, Int.reduceToNat, Int.reduceEq, Int.reduceLT, Int.reduceLE]
  refine hK _ _ ?_; clear hK K
  refine Goes.seq (Goes.join (fun env σ => eget 0 env = actsD a ∧ eget 1 env = actsD b ∧ σ = [] ∧ lightB a = true ∧ lightB b = true) ?_ ?_)
  · intro k' hk'
    refine Goes.seq ?_
    refine Goes.region [0, 1, 4] fun K hK => ?_; simp (maxSteps := 4000000) only [go_sem, ↓reduceIte, reduceCtorEq, Nat.reduceEqDiff, Nat.reduceBEq, Int.reduceBEq, Int.reduceBNe, Nat.reduceLT, Nat.reduceLeDiff, Nat.reduceAdd, Nat.reduceSub, Nat.reduceMul, Int.reduceToNat, Int.reduceEq, Int.reduceLT, Int.reduceLE]
    refine ⟨_, Try.call7, (light_calls a _).mono ?_⟩
    rintro e σ1 ⟨rfl, rfl⟩
    simp only [go_sem, ↓reduceIte, reduceCtorEq, Nat.reduceEqDiff, Nat.reduceBEq, Int.reduceBEq, Int.reduceBNe, Nat.reduceLT, Nat.reduceLeDiff, Nat.reduceAdd, Nat.reduceSub, Nat.reduceMul, Int.reduceToNat, Int.reduceEq, Int.reduceLT, Int.reduceLE]
    refine ite_intro (fun hc => ?_) (fun hc => ?_)
    · refine ⟨_, Try.call7, (light_calls b _).mono ?_⟩
      rintro e σ1 ⟨rfl, rfl⟩
      simp only [go_sem, ↓reduceIte, reduceCtorEq, Nat.reduceEqDiff, Nat.reduceBEq, Int.reduceBEq, Int.reduceBNe, Nat.reduceLT, Nat.reduceLeDiff, Nat.reduceAdd, Nat.reduceSub, Nat.reduceMul, Int.reduceToNat, Int.reduceEq, Int.reduceLT, Int.reduceLE]
      refine hK _ _ (Goes.cond rfl (fun h => ?_) (fun h => ?_)); all_goals clear hK K
      · repeat' (first | refine Goes.seq ?_ | refine Goes.skip ?_ | refine Goes.inBlock ?_ | refine Goes.block ?_ | refine Goes.exit rfl ?_ | (refine Goes.region [4] fun K hK => ?_; simp (maxSteps := 4000000) only [go_sem, ↓reduceIte, reduceCtorEq, Nat.reduceEqDiff, Nat.reduceBEq, Int.reduceBEq, Int.reduceBNe, Nat.reduceLT, Nat.reduceLeDiff, Nat.reduceAdd, Nat.reduceSub, Nat.reduceMul, Int.reduceToNat, Int.reduceEq, Int.reduceLT, Int.reduceLE]; refine hK _ _ ?_; clear hK K))
        exact ret _ _ _ rfl
      · exact Goes.skip (hk' _ _ ⟨rfl, rfl, rfl, by simpa using hc, by simpa using h⟩)
    · refine hK _ _ (Goes.cond rfl (fun h => ?_) (fun h => ?_)); all_goals clear hK K
      · repeat' (first | refine Goes.seq ?_ | refine Goes.skip ?_ | refine Goes.inBlock ?_ | refine Goes.block ?_ | refine Goes.exit rfl ?_ | (refine Goes.region [4] fun K hK => ?_; simp (maxSteps := 4000000) only [go_sem, ↓reduceIte, reduceCtorEq, Nat.reduceEqDiff, Nat.reduceBEq, Int.reduceBEq, Int.reduceBNe, Nat.reduceLT, Nat.reduceLeDiff, Nat.reduceAdd, Nat.reduceSub, Nat.reduceMul, Int.reduceToNat, Int.reduceEq, Int.reduceLT, Int.reduceLE]; refine hK _ _ ?_; clear hK K))
        exact ret _ _ _ rfl
      · simp at h
  rintro env σ ⟨e0, e1, rfl, hLa, hLb⟩
  obtain ⟨h40a, halla⟩ := light_all hLa
  obtain ⟨h40b, hallb⟩ := light_all hLb
  have fitall : ∀ {l : List XAct}, (∀ x ∈ l, light1 x = true) → ∀ x ∈ l, x.Fits := fun h x hx => (light_fits (h x hx)).1
  have szs : ∀ {l : List XAct}, (∀ x ∈ l, x.Fits) → ∀ x ∈ l, x.by_.length < 2 ^ 30 ∧ x.names.length < 2 ^ 30 ∧ x.tails.length < 2 ^ 30 := fun h x hx => by
    have := h x hx
    exact ⟨by have := this.by_; omega, by have := this.many; omega, by have := this.tails; omega⟩
  have hfa := fitall halla
  have hfb := fitall hallb
  have hba := light_bytes halla
  have hbb := light_bytes hallb
  refine Goes.seq ?_
  refine Goes.region [0, 1, 4] fun K hK => ?_; simp (maxSteps := 4000000) only [go_sem, ↓reduceIte, reduceCtorEq, Nat.reduceEqDiff, Nat.reduceBEq, Int.reduceBEq, Int.reduceBNe, Nat.reduceLT, Nat.reduceLeDiff, Nat.reduceAdd, Nat.reduceSub, Nat.reduceMul, Int.reduceToNat, Int.reduceEq, Int.reduceLT, Int.reduceLE, e0, e1]
  refine ⟨_, Try.call9, (of_calls a _ (by omega) (szs hfa)).mono ?_⟩
  rintro e σ1 ⟨rfl, rfl⟩
  simp only [go_sem, ↓reduceIte, reduceCtorEq, Nat.reduceEqDiff, Nat.reduceBEq, Int.reduceBEq, Int.reduceBNe, Nat.reduceLT, Nat.reduceLeDiff, Nat.reduceAdd, Nat.reduceSub, Nat.reduceMul, Int.reduceToNat, Int.reduceEq, Int.reduceLT, Int.reduceLE]
  refine ⟨_, Try.call8, (write_slc a _ hfa (by omega) (by omega)).mono ?_⟩
  rintro e σ1 ⟨rfl, rfl⟩
  rw [writeEnd_eq]
  simp only [go_sem, ↓reduceIte, reduceCtorEq, Nat.reduceEqDiff, Nat.reduceBEq, Int.reduceBEq, Int.reduceBNe, Nat.reduceLT, Nat.reduceLeDiff, Nat.reduceAdd, Nat.reduceSub, Nat.reduceMul, Int.reduceToNat, Int.reduceEq, Int.reduceLT, Int.reduceLE, writeEnd]
  refine hK _ _ ?_; clear hK K
  refine Goes.seq ?_
  refine Goes.region [0, 1, 4, 5, 6] fun K hK => ?_; simp (maxSteps := 4000000) only [go_sem, ↓reduceIte, reduceCtorEq, Nat.reduceEqDiff, Nat.reduceBEq, Int.reduceBEq, Int.reduceBNe, Nat.reduceLT, Nat.reduceLeDiff, Nat.reduceAdd, Nat.reduceSub, Nat.reduceMul, Int.reduceToNat, Int.reduceEq, Int.reduceLT, Int.reduceLE]
  refine ⟨_, Try.call9, (of_calls b _ (by omega) (szs hfb)).mono ?_⟩
  rintro e σ1 ⟨rfl, rfl⟩
  simp only [go_sem, ↓reduceIte, reduceCtorEq, Nat.reduceEqDiff, Nat.reduceBEq, Int.reduceBEq, Int.reduceBNe, Nat.reduceLT, Nat.reduceLeDiff, Nat.reduceAdd, Nat.reduceSub, Nat.reduceMul, Int.reduceToNat, Int.reduceEq, Int.reduceLT, Int.reduceLE]
  refine ⟨_, Try.call8, (write_slc b _ hfb (by omega) (by omega)).mono ?_⟩
  rintro e σ1 ⟨rfl, rfl⟩
  rw [writeEnd_eq]
  simp only [go_sem, ↓reduceIte, reduceCtorEq, Nat.reduceEqDiff, Nat.reduceBEq, Int.reduceBEq, Int.reduceBNe, Nat.reduceLT, Nat.reduceLeDiff, Nat.reduceAdd, Nat.reduceSub, Nat.reduceMul, Int.reduceToNat, Int.reduceEq, Int.reduceLT, Int.reduceLE, writeEnd]
  refine hK _ _ ?_; clear hK K
  refine Goes.seq ?_
  refine Goes.region [0, 1, 4, 5, 6, 7, 8] fun K hK => ?_; simp (maxSteps := 4000000) only [go_sem, ↓reduceIte, reduceCtorEq, Nat.reduceEqDiff, Nat.reduceBEq, Int.reduceBEq, Int.reduceBNe, Nat.reduceLT, Nat.reduceLeDiff, Nat.reduceAdd, Nat.reduceSub, Nat.reduceMul, Int.reduceToNat, Int.reduceEq, Int.reduceLT, Int.reduceLE]
  refine ⟨_, Try.call9, (of_own a (by omega) (szs hfa)).mono ?_⟩
  rintro e σ1 ⟨o, hg, rfl, rfl⟩
  simp only [go_sem, ↓reduceIte, reduceCtorEq, Nat.reduceEqDiff, Nat.reduceBEq, Int.reduceBEq, Int.reduceBNe, Nat.reduceLT, Nat.reduceLeDiff, Nat.reduceAdd, Nat.reduceSub, Nat.reduceMul, Int.reduceToNat, Int.reduceEq, Int.reduceLT, Int.reduceLE]
  refine ⟨_, Try.call9, (of_calls b _ (by omega) (szs hfb)).mono ?_⟩
  rintro e σ1 ⟨rfl, rfl⟩
  have ho := hg.oget
  have hd := hg.sdel
  rw [List.append_nil] at ho hd
  have hla : (a.map XAct.d).length = a.length := List.length_map ..
  have htk : List.take a.length (a.map XAct.d) = a.map XAct.d := List.take_of_length_le (by omega)
  simp only [go_sem, ↓reduceIte, reduceCtorEq, Nat.reduceEqDiff, Nat.reduceBEq, Int.reduceBEq, Int.reduceBNe, Nat.reduceLT, Nat.reduceLeDiff, Nat.reduceAdd, Nat.reduceSub, Nat.reduceMul, Int.reduceToNat, Int.reduceEq, Int.reduceLT, Int.reduceLE, ho, hd, htk, actsD]
  refine ⟨⟨by omega, plain_mapF XAct.d 6 (fun _ => ⟨rfl, rfl⟩) _, by simp; omega, by simp; omega⟩, fun ob hz hf => ?_⟩
  have hg2 : GrD ob 6 ((a ++ b).map XAct.d) [] := by rw [List.map_append]; exact hg.app hz hf
  have hab : (a.map XAct.d ++ b.map XAct.d).length = (a ++ b).length := by simp
  rw [hab, ← List.map_append]
  have hfab : ∀ x ∈ a ++ b, x.Fits := fun x hx => (List.mem_append.1 hx).elim (hfa x) (hfb x)
  refine ⟨_, Try.call8, (write_owned (a ++ b) ob hg2 hfab (by rw [allBytes_append, List.length_append]; omega) (by simp; omega)).mono ?_⟩
  rintro e σ1 ⟨rfl, rfl⟩
  simp only [go_sem, ↓reduceIte, reduceCtorEq, Nat.reduceEqDiff, Nat.reduceBEq, Int.reduceBEq, Int.reduceBNe, Nat.reduceLT, Nat.reduceLeDiff, Nat.reduceAdd, Nat.reduceSub, Nat.reduceMul, Int.reduceToNat, Int.reduceEq, Int.reduceLT, Int.reduceLE, writeEnd]
  refine hK _ _ ?_; clear hK K
  generalize hba' : (if firstWrong a = 0 then allBytes a else []) = ba
  generalize hbb' : (if firstWrong b = 0 then allBytes b else []) = bb
  generalize hbc' : (if firstWrong (a ++ b) = 0 then allBytes (a ++ b) else []) = bc
  have hfw := firstWrong_append a b
  have hq : ∀ n : Int, (n == n) = true := fun n => beq_self_eq_true n
  by_cases ha : firstWrong a = 0
  · have a1 : (firstWrong a != 0) = false := by simp [ha]
    have a2 : (firstWrong a == 0) = true := by simp [ha]
    rw [if_pos ha] at hfw hba'
    by_cases hb : firstWrong b = 0
    · have b1 : (firstWrong b != 0) = false := by simp [hb]
      rw [hb] at hfw
      rw [if_pos hfw] at hbc'
      rw [if_pos hb] at hbb'
      subst hba' hbb' hbc'
      rw [hfw]
      refine Goes.seq ?_
      refine Goes.seq ?_
      refine Goes.region [4, 5, 6, 7, 8, 9, 10] fun K hK => ?_; simp (maxSteps := 4000000) only [go_sem, ↓reduceIte, reduceCtorEq, Nat.reduceEqDiff, Nat.reduceBEq, Int.reduceBEq, Int.reduceBNe, Nat.reduceLT, Nat.reduceLeDiff, Nat.reduceAdd, Nat.reduceSub, Nat.reduceMul, Int.reduceToNat, Int.reduceEq, Int.reduceLT, Int.reduceLE, a1, b1]
      refine hK _ _ (Goes.condF rfl (Goes.skip ?_)); clear hK K
      have q1 := allByte_bD (allBytes a)
      have q2 := allByte_bD (allBytes b)
      have q3 := allByte_bD (allBytes (a ++ b))
      have p1 := bytesOf_bD (allBytes a)
      have p2 := bytesOf_bD (allBytes b)
      have p3 := bytesOf_bD (allBytes (a ++ b))
      refine Goes.seq ?_
      have hsz : (⟨(allBytes a).toArray⟩ : ByteArray).size + (⟨(allBytes b).toArray⟩ : ByteArray).size < 4611686018427387904 := by rw [size_mk, size_mk]; omega
      have hcat : (⟨(allBytes a).toArray⟩ : ByteArray) ++ ⟨(allBytes b).toArray⟩ = ⟨(allBytes (a ++ b)).toArray⟩ := by
        rw [allBytes_append]
        apply ByteArray.ext
        simp
      have hq2 : ((⟨(allBytes (a ++ b)).toArray⟩ : ByteArray).toList == (⟨(allBytes (a ++ b)).toArray⟩ : ByteArray).toList) = true := beq_self_eq_true _
      refine Goes.region [4, 5, 6, 7, 8, 9, 10] fun K hK => ?_; simp (maxSteps := 4000000) only [go_sem, ↓reduceIte, reduceCtorEq, Nat.reduceEqDiff, Nat.reduceBEq, Int.reduceBEq, Int.reduceBNe, Nat.reduceLT, Nat.reduceLeDiff, Nat.reduceAdd, Nat.reduceSub, Nat.reduceMul, Int.reduceToNat, Int.reduceEq, Int.reduceLT, Int.reduceLE, q1, q2, q3, p1, p2, p3]
      rw [bin_sadd _ _ _ _ _ _ hsz, hcat]
      simp only [go_sem, ↓reduceIte, reduceCtorEq, Nat.reduceEqDiff, Nat.reduceBEq, Int.reduceBEq, Int.reduceBNe, Nat.reduceLT, Nat.reduceLeDiff, Nat.reduceAdd, Nat.reduceSub, Nat.reduceMul, Int.reduceToNat, Int.reduceEq, Int.reduceLT, Int.reduceLE, hq2]
      refine ⟨_, Try.call11, (awake_calls _).mono ?_⟩
      rintro e σ1 ⟨rfl, rfl⟩
      simp only [go_sem, ↓reduceIte, reduceCtorEq, Nat.reduceEqDiff, Nat.reduceBEq, Int.reduceBEq, Int.reduceBNe, Nat.reduceLT, Nat.reduceLeDiff, Nat.reduceAdd, Nat.reduceSub, Nat.reduceMul, Int.reduceToNat, Int.reduceEq, Int.reduceLT, Int.reduceLE]
      refine hK _ _ ?_
      exact ret _ _ _ rfl
    · have b1 : (firstWrong b != 0) = true := by simpa using hb
      rw [if_neg hb] at hbb'
      rw [if_neg (by rw [hfw]; exact hb)] at hbc'
      subst hba' hbb' hbc'
      rw [hfw]
      refine Goes.seq ?_
      refine Goes.seq ?_
      refine Goes.region [4, 5, 6, 7, 8, 9, 10] fun K hK => ?_; simp (maxSteps := 4000000) only [go_sem, ↓reduceIte, reduceCtorEq, Nat.reduceEqDiff, Nat.reduceBEq, Int.reduceBEq, Int.reduceBNe, Nat.reduceLT, Nat.reduceLeDiff, Nat.reduceAdd, Nat.reduceSub, Nat.reduceMul, Int.reduceToNat, Int.reduceEq, Int.reduceLT, Int.reduceLE, a1, b1]
      refine hK _ _ (Goes.condT rfl ?_); clear hK K
      refine Goes.seq ?_
      refine Goes.region [4, 5, 6, 7, 8, 9, 10] fun K hK => ?_; simp (maxSteps := 4000000) only [go_sem, ↓reduceIte, reduceCtorEq, Nat.reduceEqDiff, Nat.reduceBEq, Int.reduceBEq, Int.reduceBNe, Nat.reduceLT, Nat.reduceLeDiff, Nat.reduceAdd, Nat.reduceSub, Nat.reduceMul, Int.reduceToNat, Int.reduceEq, Int.reduceLT, Int.reduceLE, a1, a2, b1, hq]
      refine ⟨_, Try.call11, (awake_calls _).mono ?_⟩
      rintro e σ1 ⟨rfl, rfl⟩
      simp only [go_sem, ↓reduceIte, reduceCtorEq, Nat.reduceEqDiff, Nat.reduceBEq, Int.reduceBEq, Int.reduceBNe, Nat.reduceLT, Nat.reduceLeDiff, Nat.reduceAdd, Nat.reduceSub, Nat.reduceMul, Int.reduceToNat, Int.reduceEq, Int.reduceLT, Int.reduceLE]
      refine hK _ _ ?_
      exact ret _ _ _ rfl
  · have a1 : (firstWrong a != 0) = true := by simpa using ha
    have a2 : (firstWrong a == 0) = false := by simpa using ha
    rw [if_neg ha] at hfw hba'
    rw [if_neg (by rw [hfw]; exact ha)] at hbc'
    subst hba' hbc'
    rw [hfw]
    refine Goes.seq ?_
    refine Goes.seq ?_
    refine Goes.region [4, 5, 6, 7, 8, 9, 10] fun K hK => ?_; simp (maxSteps := 4000000) only [go_sem, ↓reduceIte, reduceCtorEq, Nat.reduceEqDiff, Nat.reduceBEq, Int.reduceBEq, Int.reduceBNe, Nat.reduceLT, Nat.reduceLeDiff, Nat.reduceAdd, Nat.reduceSub, Nat.reduceMul, Int.reduceToNat, Int.reduceEq, Int.reduceLT, Int.reduceLE, a1]
    refine hK _ _ (Goes.condT rfl ?_); clear hK K
    refine Goes.seq ?_
    refine Goes.region [4, 5, 6, 7, 8, 9, 10] fun K hK => ?_; simp (maxSteps := 4000000) only [go_sem, ↓reduceIte, reduceCtorEq, Nat.reduceEqDiff, Nat.reduceBEq, Int.reduceBEq, Int.reduceBNe, Nat.reduceLT, Nat.reduceLeDiff, Nat.reduceAdd, Nat.reduceSub, Nat.reduceMul, Int.reduceToNat, Int.reduceEq, Int.reduceLT, Int.reduceLE, a1, a2, hq]
    refine ⟨_, Try.call11, (awake_calls _).mono ?_⟩
    rintro e σ1 ⟨rfl, rfl⟩
    simp only [go_sem, ↓reduceIte, reduceCtorEq, Nat.reduceEqDiff, Nat.reduceBEq, Int.reduceBEq, Int.reduceBNe, Nat.reduceLT, Nat.reduceLeDiff, Nat.reduceAdd, Nat.reduceSub, Nat.reduceMul, Int.reduceToNat, Int.reduceEq, Int.reduceLT, Int.reduceLE]
    refine hK _ _ ?_
    exact ret _ _ _ rfl
end Go.Ab.S21
