/- Layer 21: of. -/
import Derived.Test.YtcpcfglccnmmnaaS21B
set_option linter.unusedSimpArgs false
set_option linter.unusedVariables false
set_option linter.constructorNameAsVariable false
namespace Go.Ab.S21
open Go Go.Proofs

theorem of_own (l : List XAct) (hm : l.length < 2 ^ 30) (hsz : ∀ x ∈ l, x.by_.length < 2 ^ 30 ∧ x.names.length < 2 ^ 30 ∧ x.tails.length < 2 ^ 30) : ACalls Try.prog 9 [actsD l] [] (fun e σ' => ∃ o, GrD o 6 (l.map XAct.d) [] ∧ e = .ret (.own o 6 l.length) ∧ σ' = cellsOf o 6 (l.map XAct.d) ++ []) := by
  have hlen : (l.map XAct.d).length = l.length := List.length_map ..
  unfold actsD
  refine ACalls.of_body Try.func9 rfl Try.ntmps9 (by simp) fun C hC => ?_
  repeat' (first | refine Goes.seq ?_ | refine Goes.skip ?_ | refine Goes.inBlock ?_ | refine Goes.block ?_ | refine Goes.exit rfl ?_ | (refine Goes.region [0, 3, 4] fun K hK => ?_; simp (maxSteps := 4000000) only [go_sem, ↓reduceIte, reduceCtorEq, Nat.reduceEqDiff, Nat.reduceBEq, Int.reduceBEq, Int.reduceBNe, Nat.reduceLT, Nat.reduceLeDiff, Nat.reduceAdd, Nat.reduceSub, Nat.reduceMul, Int.reduceToNat, Int.reduceEq, Int.reduceLT, Int.reduceLE]; refine hK _ _ ?_; clear hK K))
  refine Goes.rebase [0, 3, 4] ?_
  simp only [go_sem, ↓reduceIte, reduceCtorEq, Nat.reduceEqDiff, Nat.reduceBEq, Int.reduceBEq, Int.reduceBNe, Nat.reduceLT, Nat.reduceLeDiff, Nat.reduceAdd, Nat.reduceSub, Nat.reduceMul, Int.reduceToNat, Int.reduceEq, Int.reduceLT, Int.reduceLE]
  refine Goes.env_le (env' := [(0, .slc (l.map XAct.d)), (3, .own none 6 0), (4, .v (.int .i64 0))]) ?_ (fun k => ?_)
  rotate_left
  · simp only [eget]
    repeat' split
    all_goals first | exact DLe.refl _ | exact DLe.nil_own 6
  refine Goes.while (fun (i : Nat) env' σ' => i ≤ l.length ∧ ∃ o, GrD o 6 ((l.take i).map XAct.d) [] ∧ env' = [(0, .slc (l.map XAct.d)), (3, .own o 6 i), (4, .v (.int .i64 (i : Int)))] ∧ σ' = cellsOf o 6 ((l.take i).map XAct.d) ++ []) (fun i => l.length - i) 0 ⟨by omega, none, GrD.nil _ _, rfl, rfl⟩ ?_
  rintro i env' σ' ⟨hi, o, hgr, rfl, rfl⟩ ih
  repeat' (first | refine Goes.seq ?_ | refine Goes.skip ?_ | refine Goes.inBlock ?_ | refine Goes.block ?_ | refine Goes.exit rfl ?_ | (refine Goes.region [0, 3, 4] fun K hK => ?_; simp (maxSteps := 4000000) only [go_sem, ↓reduceIte, reduceCtorEq, Nat.reduceEqDiff, Nat.reduceBEq, Int.reduceBEq, Int.reduceBNe, Nat.reduceLT, Nat.reduceLeDiff, Nat.reduceAdd, Nat.reduceSub, Nat.reduceMul, Int.reduceToNat, Int.reduceEq, Int.reduceLT, Int.reduceLE]; refine hK _ _ ?_; clear hK K))
  refine Goes.cond rfl (fun h => ?_) (fun h => ?_)
  rotate_left
  · have hge : ¬ i < l.length := by simpa [hlen] using h
    have : i = l.length := by omega
    subst this
    rw [List.take_length] at hgr ⊢
    repeat' (first | refine Goes.seq ?_ | refine Goes.skip ?_ | refine Goes.inBlock ?_ | refine Goes.block ?_ | refine Goes.exit rfl ?_ | (refine Goes.region [2, 3] fun K hK => ?_; simp (maxSteps := 4000000) only [go_sem, ↓reduceIte, reduceCtorEq, Nat.reduceEqDiff, Nat.reduceBEq, Int.reduceBEq, Int.reduceBNe, Nat.reduceLT, Nat.reduceLeDiff, Nat.reduceAdd, Nat.reduceSub, Nat.reduceMul, Int.reduceToNat, Int.reduceEq, Int.reduceLT, Int.reduceLE]; refine hK _ _ ?_; clear hK K))
    refine Goes.ret hC Try.func9 (by simp [go_sem]) ?_
    simp only [go_sem, ↓reduceIte, reduceCtorEq, Nat.reduceEqDiff, Nat.reduceBEq, Int.reduceBEq, Int.reduceBNe, Nat.reduceLT, Nat.reduceLeDiff, Nat.reduceAdd, Nat.reduceSub, Nat.reduceMul, Int.reduceToNat, Int.reduceEq, Int.reduceLT, Int.reduceLE]
    exact ⟨o, hgr, rfl, by simp⟩
  have hlt : i < l.length := by simpa [hlen] using h
  have hg := getD_map_lt XAct.d l i hlt
  rw [XAct.d] at hg
  have hi0 : (0 : Int) ≤ (i : Int) := by omega
  have hi1 : (i : Int) < ((l.map XAct.d).length : Int) := by omega
  refine Goes.skip ?_
  refine Goes.seq ?_
  refine Goes.block ?_
  refine Goes.seq ?_
  refine Goes.region [0, 3, 4] fun K hK => ?_; simp (maxSteps := 4000000) only [go_sem, ↓reduceIte, reduceCtorEq, Nat.reduceEqDiff, Nat.reduceBEq, Int.reduceBEq, Int.reduceBNe, Nat.reduceLT, Nat.reduceLeDiff, Nat.reduceAdd, Nat.reduceSub, Nat.reduceMul, Int.reduceToNat, Int.reduceEq, Int.reduceLT, Int.reduceLE, hg, hi0, hi1]
  intro b5 hb5
  refine hK _ _ ?_; clear hK K
  rw [← List.append_nil (cellsOf o 6 _)] at hb5
  obtain ⟨hgr2, hle⟩ := hgr.push (x := .arr 6 [D.agg [.v (.int .i64 l[i].kind), .v (.int .i64 l[i].num), .v (.string l[i].name), .slc (l[i].by_.map bD), .slc (l[i].names.map sD), .slc (l[i].tails.map iD)]]) hb5
  rw [List.append_nil (cellsOf o 6 _)] at hle
  refine Goes.le (ELe.refl _) hle ?_
  have ho := hgr2.oget
  have hd := hgr2.sdel
  have h5 := hgr2.keep (sget_self ..)
  have htl : ((l.take i).map XAct.d).length = i := by simp; omega
  have htk : List.take i ((l.take i).map XAct.d) = (l.take i).map XAct.d := List.take_of_length_le (by omega)
  refine Goes.draw [0, 3, 4, 5] [23, 26, 27, 30, 31, 34, 36] [b5] [] [(0, true), (1, true), (2, true), (3, true), (4, true), (5, true), (6, true), (7, true), (8, true), (9, true), (10, true), (11, true), (12, true), (13, true), (14, true), (15, true), (16, true), (17, true), (18, true), (19, true), (20, true), (21, false), (22, true)] (by kernel_rfl) (by decide) (by kernel_rfl) fun K hK => ?_; simp (maxSteps := 4000000) only [go_sem, ↓reduceIte, reduceCtorEq, Nat.reduceEqDiff, Nat.reduceBEq, Int.reduceBEq, Int.reduceBNe, Nat.reduceLT, Nat.reduceLeDiff, Nat.reduceAdd, Nat.reduceSub, Nat.reduceMul, Int.reduceToNat, Int.reduceEq, Int.reduceLT, Int.reduceLE, ho, hd, h5, htk, htl]
  obtain ⟨s1, s2, s3⟩ := hsz l[i] (List.getElem_mem hlt)
  have p1 := plain_mapF bD 1 (fun _ => ⟨rfl, rfl⟩) l[i].by_
  have p2 := plain_mapF sD 1 (fun _ => ⟨rfl, rfl⟩) l[i].names
  have p3 := plain_mapF iD 1 (fun _ => ⟨rfl, rfl⟩) l[i].tails
  refine ⟨⟨p1, by simp; omega, by simp; omega⟩, ⟨p2, by simp; omega, by simp; omega⟩, ⟨p3, by simp; omega, by simp; omega⟩, by decide, ⟨by omega, fun y hy => by rw [hy]; exact ⟨rfl, rfl⟩, by omega, by omega⟩, fun ob hz hf => ?_⟩
  have hgr3 := hgr2.app hz hf
  refine ⟨fun b hb => ?_, ?_⟩
  · subst hb
    rw [hgr3.keep (sget_self ..), h5]
  refine hK _ _ ?_; clear hK K
  obtain ⟨hgr4, hle2⟩ := hgr3.drop rfl
  refine Goes.le (ELe.refl _) hle2 ?_
  repeat' (first | refine Goes.seq ?_ | refine Goes.skip ?_ | refine Goes.inBlock ?_ | refine Goes.block ?_ | refine Goes.exit rfl ?_ | (refine Goes.region [0, 3, 4] fun K hK => ?_; simp (maxSteps := 4000000) only [go_sem, ↓reduceIte, reduceCtorEq, Nat.reduceEqDiff, Nat.reduceBEq, Int.reduceBEq, Int.reduceBNe, Nat.reduceLT, Nat.reduceLeDiff, Nat.reduceAdd, Nat.reduceSub, Nat.reduceMul, Int.reduceToNat, Int.reduceEq, Int.reduceLT, Int.reduceLE]; refine hK _ _ ?_; clear hK K))
  refine Goes.rebase [0, 3, 4] ?_
  simp only [go_sem, ↓reduceIte, reduceCtorEq, Nat.reduceEqDiff, Nat.reduceBEq, Int.reduceBEq, Int.reduceBNe, Nat.reduceLT, Nat.reduceLeDiff, Nat.reduceAdd, Nat.reduceSub, Nat.reduceMul, Int.reduceToNat, Int.reduceEq, Int.reduceLT, Int.reduceLE]
  rw [wrap_succ i (by omega)]
  have hx : (l.take (i + 1)).map XAct.d = (l.take i).map XAct.d ++ [l[i].d] := by
    rw [List.take_succ_eq_append_getElem hlt, List.map_append]; rfl
  refine ih (i + 1) _ _ ⟨by omega, ob, by rw [hx]; exact hgr4, ?_, by rw [hx]; simp [XAct.d]⟩ (by omega)
  simp; omega

theorem of_calls (l : List XAct) (σ : Store) (hm : l.length < 2 ^ 30) (hsz : ∀ x ∈ l, x.by_.length < 2 ^ 30 ∧ x.names.length < 2 ^ 30 ∧ x.tails.length < 2 ^ 30) : ACalls Try.prog 9 [actsD l] σ (fun e σ' => e = .ret (actsD l) ∧ σ' = σ) := by
  have hlen : (l.map XAct.d).length = l.length := List.length_map ..
  have h := of_own l hm hsz
  have h2 : ACalls Try.prog 9 [actsD l] [] (fun e σ' => (e = .ret (actsD l) ∧ σ' = []) ∨ ∃ b, e = .ret (.own (some b) 6 l.length) ∧ σ' = [(b, .arr 6 (l.map XAct.d))]) := by
    refine h.ret_le fun e σ' ⟨o, hg, he, hs⟩ => ?_
    cases o with
    | some b => exact .inl (.inr ⟨b, he, hs⟩)
    | none =>
      have : l = [] := by simpa using hg.zero rfl
      subst this
      exact .inr ⟨_, _, he, DLe.own_slc _ _, .inl ⟨rfl, hs⟩⟩
  refine h2.pub1 (R' := fun e => e = .ret (actsD l)) (fun e σ' hR => ?_) σ
  rcases hR with h3 | ⟨b, rfl, rfl⟩
  · exact .inl h3
  · refine .inr ⟨_, b, 6, _, rfl, rfl, ?_⟩
    simp only [D.pub, true_and]
    rw [if_pos (by rw [hlen]; exact Nat.le_refl _), ← hlen, List.take_length]; rfl
end Go.Ab.S21
