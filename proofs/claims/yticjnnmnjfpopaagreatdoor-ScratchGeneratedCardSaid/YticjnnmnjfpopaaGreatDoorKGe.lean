/- A part of a proof about the given program: the abstract machine, what functions compute, laid in few texts. -/
import Derived.Test.YticjnnmnjfpopaaGreatDoorKGd
import Derived.Laws.AppendOwn
import Derived.Shelf.SlGeneric
import Derived.Shelf.SlIter.Nil
import Derived.Shelf.SlIterI.Nil
import Derived.Shelf.SortM.Plain
import Derived.Shelf.SortM.SortNone
import Derived.Ground.GgzProg
import Derived.Ground.SlgmProg
import Derived.Test.YticjnnmnjfpopaaGreatDoorProg
import Derived.Lib.SlKeysI
import Derived.Sort.KeysCollected
import Derived.Sort.Row
import Derived.Sort.Grow
open Nat renaming reduceEqDiff → zqa, reduceBEq → zqb, reduceLT → zqe, reduceLeDiff → zqf, reduceAdd → zqg, reduceSub → zqh, reduceMul → zqi
open Int renaming reduceBEq → zqc, reduceBNe → zqd, reduceToNat → zqj, reduceEq → zqk, reduceLT → zql, reduceLE → zqm
set_option linter.unusedSimpArgs false
set_option linter.unusedVariables false
set_option linter.constructorNameAsVariable false
namespace Go.Ab.S16
open Go Go.Proofs
def ready (ah : List (List Nat)) (out : List Nat) (n : Nat) : Bool := !out.contains n && (ah.getD n []).all out.contains
/-- The order of some edges: the first that is not done, and whose edges ahead are, again and again. -/
def orderF (ah : List (List Nat)) (some_ : List Nat) : Nat → List Nat → List Nat
  | 0, out => out
  | k + 1, out => match some_.find? (ready ah out) with
    | some n => orderF ah some_ k (out ++ [n])
    | none => out
def orderL (ah : List (List Nat)) (some_ : List Nat) : List Nat := orderF ah some_ some_.length []
theorem nodup_sub_len : ∀ {l m : List Nat}, l.Nodup → (∀ x ∈ l, x ∈ m) → l.length ≤ m.length
  | [], _, _, _ => by simp
  | x :: l, m, hn, hs => by
    have hx : x ∈ m := hs x (by simp)
    have h1 := List.nodup_cons.1 hn
    have := nodup_sub_len (l := l) (m := m.erase x) h1.2 (fun y hy => by
      refine (List.mem_erase_of_ne ?_).2 (hs y (by simp [hy]))
      intro he; subst he; exact h1.1 hy)
    rw [List.length_erase_of_mem hx] at this
    have : 0 < m.length := List.length_pos_of_mem hx
    simp; omega
def mkDone (out : List Nat) : List (Value × D) := out.map fun n : Nat => (.int .i64 (n : Int), .v (.bool true))
theorem mfind_done (out : List Nat) (n : Nat) : (mfind (.int .i64 (n : Int)) (mkDone out)).getD (.v (.bool false)) = .v (.bool (out.contains n)) := by
  induction out with
  | nil => rfl
  | cons k r ih =>
    show (if keyEq (.int .i64 (n : Int)) (.int .i64 (k : Int)) = true then some (D.v (.bool true)) else mfind (.int .i64 (n : Int)) (mkDone r)).getD _ = _
    rw [List.contains_cons]
    show (if (IntKind.i64 == IntKind.i64 && (n : Int) == (k : Int)) = true then some (D.v (.bool true)) else mfind (.int .i64 (n : Int)) (mkDone r)).getD _ = _
    by_cases h : n = k
    · subst h; simp
    · have h1 : ((n : Int) == (k : Int)) = false := by simp; omega
      have h2 : (n == k) = false := by simp [h]
      rw [h1, h2]
      simpa using ih
theorem mset_done (out : List Nat) (n : Nat) (h : out.contains n = false) : mset (.int .i64 (n : Int)) (.v (.bool true)) (mkDone out) = mkDone (out ++ [n]) := by
  induction out with
  | nil => rfl
  | cons k r ih =>
    rw [List.contains_cons, Bool.or_eq_false_iff] at h
    have hk : n ≠ k := by simpa using h.1
    show (if keyEq (.int .i64 (n : Int)) (.int .i64 (k : Int)) = true then _ else _) = _
    have h1 : keyEq (.int .i64 (n : Int)) (.int .i64 (k : Int)) = false := by
      show (IntKind.i64 == IntKind.i64 && (n : Int) == (k : Int)) = false
      simp; omega
    rw [h1]
    simp only [Bool.false_eq_true, if_false]
    rw [show mset (.int .i64 (n : Int)) (.v (.bool true)) (List.map (fun n : Nat => (Value.int .i64 (n : Int), D.v (.bool true))) r) = mkDone (r ++ [n]) from ih h.2]
    rfl
theorem done_like (out : List Nat) (n : Nat) : ∀ e ∈ mkDone out, keyLike (.int .i64) (.int .i64 (n : Int)) e.1 = true := fun e he => by
  obtain ⟨p, _, rfl⟩ := List.mem_map.1 he
  rfl
theorem find_ready {α : Type} {p : α → Bool} {l : List α} {i : Nat} (hi : i < l.length) (h0 : ∀ x ∈ l.take i, p x = false) (h : p l[i] = true) : l.find? p = some l[i] := by
  rw [List.find?_eq_some_iff_getElem]
  exact ⟨h, i, hi, rfl, fun j hj => by
    have := h0 (l[j]'(by omega)) (by rw [List.mem_take_iff_getElem]; exact ⟨j, by omega, rfl⟩)
    simpa using this⟩
theorem order_own (x0 x1 x2 : D) (ah : List (List Nat)) (sm : List Nat) (σ : Store) (hl : sm.length < 2 ^ 30) (hs : ∀ n ∈ sm, n < ah.length) (hah : ∀ l ∈ ah, l.length < 2 ^ 30) :
    ACalls Tryz.prog 56 [.elt [x0, x1, x2, .slc (ah.map fun l => .slc (l.map nD))], .slc (sm.map nD)] σ
      (fun e σ' => ∃ o, GrD o 1 ((orderL ah sm).map nD) σ ∧ e = .ret (.own o 1 ((orderL ah sm).map nD).length) ∧ σ' = cellsOf o 1 ((orderL ah sm).map nD) ++ σ) := by
  have hll : (sm.map nD).length = sm.length := List.length_map ..
  have hal : (ah.map fun l => D.slc (l.map nD)).length = ah.length := List.length_map ..
  refine ACalls.of_body Tryz.func56 rfl Tryz.ntmps56 (by simp) fun C hC => ?_
  refine Goes.seq ?_
  refine Goes.region [0, 1] fun K hK => ?_; simp (maxSteps := 4000000) only [go_sem, ↓reduceIte, reduceCtorEq, zqa, zqb, zqc, zqd, zqe, zqf, zqg, zqh, zqi, zqj, zqk, zql, zqm]
  refine hK _ _ ?_; clear hK K
  refine Goes.scope ?_
  refine Goes.seq ?_
  refine Goes.region [0, 1] fun K hK => ?_; simp (maxSteps := 4000000) only [go_sem, ↓reduceIte, reduceCtorEq, zqa, zqb, zqc, zqd, zqe, zqf, zqg, zqh, zqi, zqj, zqk, zql, zqm]
  intro db hdb
  refine hK _ _ ?_; clear hK K
  refine Goes.seq ?_
  refine Goes.region [0, 1, 5] fun K hK => ?_; simp (maxSteps := 4000000) only [go_sem, ↓reduceIte, reduceCtorEq, zqa, zqb, zqc, zqd, zqe, zqf, zqg, zqh, zqi, zqj, zqk, zql, zqm]
  refine hK _ _ ?_; clear hK K
  refine Goes.seq ?_
  refine Goes.label ?_
  refine Goes.block ?_
  refine Goes.nilOwn 6 1 rfl ?_
  refine Goes.rebase [0, 1, 5, 6] ?_
  simp only [go_sem, ↓reduceIte, reduceCtorEq, zqa, zqb, zqc, zqd, zqe, zqf, zqg, zqh, zqi, zqj, zqk, zql, zqm]
  refine Goes.while (fun (out : List Nat) env' σ'' => ∃ o : Option Nat, (out.Nodup ∧ (∀ n ∈ out, n ∈ sm) ∧ orderF ah sm (sm.length - out.length) out = orderL ah sm ∧ GrD o 1 (out.map nD) ((db, .mp (mkDone out)) :: σ)) ∧ env' = [(0, .elt [x0, x1, x2, .slc (ah.map fun l => .slc (l.map nD))]), (1, .slc (sm.map nD)), (5, .map db), (6, .own o 1 (out.map nD).length)] ∧ σ'' = cellsOf o 1 (out.map nD) ++ (db, .mp (mkDone out)) :: σ) (fun (out : List Nat) => sm.length + 1 - out.length) [] ⟨none, ⟨List.nodup_nil, by simp, rfl, GrD.nil _ _⟩, rfl, rfl⟩ ?_
  rintro out env' σ'' ⟨o, ⟨hnd, hsub, hfin, hgr⟩, rfl, rfl⟩ ih
  have ih1 := ih
  have hol := nodup_sub_len hnd hsub
  have hm2 := hgr.keep (sget_self db (.mp (mkDone out)) σ)
  have ho := hgr.oget
  have hd := hgr.sdel
  have htk : List.take (out.map nD).length (out.map nD) = out.map nD := List.take_of_length_le (Nat.le_refl _)
  generalize hτ : cellsOf o 1 (out.map nD) ++ (db, AObj.mp (mkDone out)) :: σ = τ at hm2 ho hd ⊢
  refine Goes.block ?_
  refine Goes.scope ?_
  refine Goes.seq ?_
  refine Goes.label ?_
  refine Goes.seq ?_
  refine Goes.seq ?_
  refine Goes.region [0, 1, 5, 6] fun K hK => ?_; simp (maxSteps := 4000000) only [go_sem, ↓reduceIte, reduceCtorEq, zqa, zqb, zqc, zqd, zqe, zqf, zqg, zqh, zqi, zqj, zqk, zql, zqm]
  refine hK _ _ ?_; clear hK K
  refine Goes.block ?_
  refine Goes.rebase [0, 1, 5, 6, 12, 13, 14] ?_
  simp only [go_sem, ↓reduceIte, reduceCtorEq, zqa, zqb, zqc, zqd, zqe, zqf, zqg, zqh, zqi, zqj, zqk, zql, zqm]
  refine Goes.while (fun (i : Nat) env' σ'' => (i ≤ sm.length ∧ (∀ n ∈ sm.take i, ready ah out n = false)) ∧ env' = [(0, .elt [x0, x1, x2, .slc (ah.map fun l => .slc (l.map nD))]), (1, .slc (sm.map nD)), (5, .map db), (6, .own o 1 (out.map nD).length), (12, .slc (sm.map nD)), (13, .v (.int .i64 (sm.length : Int))), (14, .v (.int .i64 (i : Int)))] ∧ τ = σ'') (fun (i : Nat) => sm.length - i) 0 ⟨⟨by omega, by simp⟩, by rw [hll]; rfl, rfl⟩ ?_
  rintro i env' σ'' ⟨⟨hi, hno⟩, rfl, rfl⟩ ih
  have ih2 := ih
  refine Goes.seq ?_
  refine Goes.region [0, 1, 5, 6, 12, 13, 14] fun K hK => ?_; simp (maxSteps := 4000000) only [go_sem, ↓reduceIte, reduceCtorEq, zqa, zqb, zqc, zqd, zqe, zqf, zqg, zqh, zqi, zqj, zqk, zql, zqm]
  refine hK _ _ ?_; clear hK K
  refine Goes.seq ?_
  refine Goes.cond rfl (fun h15 => ?_) (fun h15 => ?_)
  · have hlt : i < sm.length := by simpa using h15
    have hg := getD_map_lt nD sm i hlt
    rw [nD] at hg
    have hi0 : (0 : Int) ≤ (i : Int) := by omega
    have hi1 : (i : Int) < ((sm.map nD).length : Int) := by omega
    have hn := hs sm[i] (List.getElem_mem hlt)
    have hg2 := getD_map_lt (fun l => D.slc (l.map nD)) ah sm[i] hn
    have hn0 : (0 : Int) ≤ (sm[i] : Int) := by omega
    have hn1 : (sm[i] : Int) < ((ah.map fun l => D.slc (l.map nD)).length : Int) := by omega
    have hfd := mfind_done out sm[i]
    have hlk := done_like out sm[i]
    refine Goes.skip ?_
    refine Goes.seq ?_
    refine Goes.block ?_
    refine Goes.seq ?_
    refine Goes.region [0, 1, 5, 6, 12, 13, 14] fun K hK => ?_; simp (maxSteps := 4000000) only [go_sem, ↓reduceIte, reduceCtorEq, zqa, zqb, zqc, zqd, zqe, zqf, zqg, zqh, zqi, zqj, zqk, zql, zqm, hg, hi0, hi1]
    refine hK _ _ ?_; clear hK K
    refine Goes.seq ?_
    refine Goes.seq ?_
    refine Goes.region [0, 1, 5, 6, 8, 12, 13, 14] fun K hK => ?_; simp (maxSteps := 4000000) only [go_sem, ↓reduceIte, reduceCtorEq, zqa, zqb, zqc, zqd, zqe, zqf, zqg, zqh, zqi, zqj, zqk, zql, zqm, hm2, hfd]
    refine ⟨⟨rfl, hlk⟩, ?_⟩
    refine hK _ _ ?_; clear hK K
    refine Goes.cond rfl (fun h20 => ?_) (fun h20 => ?_)
    · have hrd : ready ah out sm[i] = false := by unfold ready; rw [h20]; rfl
      refine Goes.exit rfl ?_
      refine Goes.region [0, 1, 5, 6, 12, 13, 14] fun K hK => ?_; simp (maxSteps := 4000000) only [go_sem, ↓reduceIte, reduceCtorEq, zqa, zqb, zqc, zqd, zqe, zqf, zqg, zqh, zqi, zqj, zqk, zql, zqm]
      refine hK _ _ ?_; clear hK K
      refine Goes.rebase [0, 1, 5, 6, 12, 13, 14] ?_
      simp only [go_sem, ↓reduceIte, reduceCtorEq, zqa, zqb, zqc, zqd, zqe, zqf, zqg, zqh, zqi, zqj, zqk, zql, zqm]
      rw [wrap_succ i (by omega)]
      exact ih2 (i + 1) _ _ ⟨⟨by omega, take_succ_none hlt hno hrd⟩, rfl, rfl⟩ (by omega)
    · have hnc : out.contains sm[i] = false := h20
      have hla : (ah[sm[i]].map nD).length = ah[sm[i]].length := List.length_map ..
      have hal2 := hah _ (List.getElem_mem hn)
      have hgd : ah.getD sm[i] [] = ah[sm[i]] := getD_lt ah sm[i] [] hn
      refine Goes.skip ?_
      refine Goes.seq ?_
      refine Goes.seq ?_
      refine Goes.region [0, 1, 5, 6, 8, 12, 13, 14] fun K hK => ?_; simp (maxSteps := 4000000) only [go_sem, ↓reduceIte, reduceCtorEq, zqa, zqb, zqc, zqd, zqe, zqf, zqg, zqh, zqi, zqj, zqk, zql, zqm, hg2, hn0, hn1]
      refine hK _ _ ?_; clear hK K
      refine Goes.block ?_
      refine Goes.rebase [0, 1, 5, 6, 8, 12, 13, 14, 27, 28, 29] ?_
      simp only [go_sem, ↓reduceIte, reduceCtorEq, zqa, zqb, zqc, zqd, zqe, zqf, zqg, zqh, zqi, zqj, zqk, zql, zqm]
      refine Goes.while (fun (j : Nat) env' σ'' => (j ≤ ah[sm[i]].length ∧ ∀ y ∈ ah[sm[i]].take j, out.contains y = true) ∧ env' = [(0, .elt [x0, x1, x2, .slc (ah.map fun l => .slc (l.map nD))]), (1, .slc (sm.map nD)), (5, .map db), (6, .own o 1 (out.map nD).length), (8, .v (.int .i64 (sm[i] : Int))), (12, .slc (sm.map nD)), (13, .v (.int .i64 (sm.length : Int))), (14, .v (.int .i64 (i : Int))), (27, .slc (ah[sm[i]].map nD)), (28, .v (.int .i64 (ah[sm[i]].length : Int))), (29, .v (.int .i64 (j : Int)))] ∧ τ = σ'') (fun (j : Nat) => ah[sm[i]].length - j) 0 ⟨⟨by omega, by simp⟩, by rw [hla]; rfl, rfl⟩ ?_
      rintro j env' σ'' ⟨⟨hj, hall⟩, rfl, rfl⟩ ih
      have ih3 := ih
      refine Goes.seq ?_
      refine Goes.region [0, 1, 5, 6, 8, 12, 13, 14, 27, 28, 29] fun K hK => ?_; simp (maxSteps := 4000000) only [go_sem, ↓reduceIte, reduceCtorEq, zqa, zqb, zqc, zqd, zqe, zqf, zqg, zqh, zqi, zqj, zqk, zql, zqm]
      refine hK _ _ ?_; clear hK K
      refine Goes.seq ?_
      refine Goes.cond rfl (fun h30 => ?_) (fun h30 => ?_)
      · have hltj : j < ah[sm[i]].length := by simpa using h30
        have hg3 := getD_map_lt nD ah[sm[i]] j hltj
        rw [nD] at hg3
        have hj0 : (0 : Int) ≤ (j : Int) := by omega
        have hj1 : (j : Int) < ((ah[sm[i]].map nD).length : Int) := by omega
        have hfd3 := mfind_done out ah[sm[i]][j]
        have hlk3 := done_like out ah[sm[i]][j]
        refine Goes.skip ?_
        refine Goes.seq ?_
        refine Goes.block ?_
        refine Goes.seq ?_
        refine Goes.region [0, 1, 5, 6, 8, 12, 13, 14, 27, 28, 29] fun K hK => ?_; simp (maxSteps := 4000000) only [go_sem, ↓reduceIte, reduceCtorEq, zqa, zqb, zqc, zqd, zqe, zqf, zqg, zqh, zqi, zqj, zqk, zql, zqm, hg3, hj0, hj1]
        refine hK _ _ ?_; clear hK K
        refine Goes.seq ?_
        refine Goes.region [0, 1, 5, 6, 8, 10, 12, 13, 14, 27, 28, 29] fun K hK => ?_; simp (maxSteps := 4000000) only [go_sem, ↓reduceIte, reduceCtorEq, zqa, zqb, zqc, zqd, zqe, zqf, zqg, zqh, zqi, zqj, zqk, zql, zqm, hm2, hfd3]
        refine ⟨⟨rfl, hlk3⟩, ?_⟩
        refine hK _ _ ?_; clear hK K
        refine Goes.cond rfl (fun h36 => ?_) (fun h36 => ?_)
        · have hrd : ready ah out sm[i] = false := by
            unfold ready
            rw [hgd]
            have hf : ah[sm[i]].all out.contains = false := List.all_eq_false.2 ⟨ah[sm[i]][j], List.getElem_mem hltj, by simpa using h36⟩
            rw [hf, Bool.and_false]
          refine Goes.exit rfl ?_
          refine Goes.region [0, 1, 5, 6, 12, 13, 14] fun K hK => ?_; simp (maxSteps := 4000000) only [go_sem, ↓reduceIte, reduceCtorEq, zqa, zqb, zqc, zqd, zqe, zqf, zqg, zqh, zqi, zqj, zqk, zql, zqm]
          refine hK _ _ ?_; clear hK K
          refine Goes.rebase [0, 1, 5, 6, 12, 13, 14] ?_
          simp only [go_sem, ↓reduceIte, reduceCtorEq, zqa, zqb, zqc, zqd, zqe, zqf, zqg, zqh, zqi, zqj, zqk, zql, zqm]
          rw [wrap_succ i (by omega)]
          exact ih2 (i + 1) _ _ ⟨⟨by omega, take_succ_none hlt hno hrd⟩, rfl, rfl⟩ (by omega)
        · refine Goes.skip ?_
          refine Goes.inBlock ?_
          refine Goes.region [0, 1, 5, 6, 8, 12, 13, 14, 27, 28, 29] fun K hK => ?_; simp (maxSteps := 4000000) only [go_sem, ↓reduceIte, reduceCtorEq, zqa, zqb, zqc, zqd, zqe, zqf, zqg, zqh, zqi, zqj, zqk, zql, zqm]
          refine hK _ _ ?_; clear hK K
          refine Goes.rebase [0, 1, 5, 6, 8, 12, 13, 14, 27, 28, 29] ?_
          simp only [go_sem, ↓reduceIte, reduceCtorEq, zqa, zqb, zqc, zqd, zqe, zqf, zqg, zqh, zqi, zqj, zqk, zql, zqm]
          rw [wrap_succ j (by omega)]
          refine ih (j + 1) _ _ ⟨⟨by omega, fun y hy => ?_⟩, rfl, rfl⟩ (by omega)
          rw [List.take_succ_eq_append_getElem hltj] at hy
          rcases List.mem_append.1 hy with hy | hy
          · exact hall y hy
          · simp only [List.mem_singleton] at hy; rw [hy]; simpa using h36
      · have hje : j = ah[sm[i]].length := by simp at h30; omega
        subst hje
        rw [List.take_length] at hall
        have hrd : ready ah out sm[i] = true := by
          unfold ready
          rw [hgd, hnc, List.all_eq_true.2 hall]; rfl
        have hfind := find_ready hlt hno hrd
        have hms := mset_done out sm[i] hnc
        have hss : sset db (.mp (mkDone (out ++ [sm[i]]))) τ = cellsOf o 1 (out.map nD) ++ (db, .mp (mkDone (out ++ [sm[i]]))) :: σ := by
          rw [← hτ, hgr.sset (by simp), sset_self]
        have hgr2 := hgr.ssetR db (.mp (mkDone (out ++ [sm[i]])))
        rw [sset_self] at hgr2
        have ho2 := hgr2.oget
        have hd2 := hgr2.sdel
        refine Goes.exit rfl ?_
        refine Goes.seq ?_
        refine Goes.region [0, 1, 5, 6, 8] fun K hK => ?_; simp (maxSteps := 4000000) only [go_sem, ↓reduceIte, reduceCtorEq, zqa, zqb, zqc, zqd, zqe, zqf, zqg, zqh, zqi, zqj, zqk, zql, zqm, hm2, hms, hss]
        refine ⟨⟨rfl, hlk⟩, ?_⟩
        refine hK _ _ ?_; clear hK K
        refine Goes.seq ?_
        refine Goes.regionM [0, 1, 5, 6, 8] [42] fun K hK => ?_; simp (maxSteps := 4000000) only [go_sem, ↓reduceIte, reduceCtorEq, zqa, zqb, zqc, zqd, zqe, zqf, zqg, zqh, zqi, zqj, zqk, zql, zqm, ho2, hd2, htk]
        refine ⟨by decide, ⟨Nat.le_refl _, fun y hy => by rw [hy]; exact ⟨rfl, rfl⟩, by simp only [List.length_map]; omega, by simp only [List.length_map]; omega⟩, fun ob hz hf => ?_⟩
        refine hK _ _ ?_; clear hK K
        refine Goes.exit rfl ?_
        refine Goes.rebase [0, 1, 5, 6] ?_
        simp only [go_sem, ↓reduceIte, reduceCtorEq, zqa, zqb, zqc, zqd, zqe, zqf, zqg, zqh, zqi, zqj, zqk, zql, zqm]
        have hnm : sm[i] ∉ out := fun h => by rw [List.contains_iff_mem.2 h] at hnc; cases hnc
        have hnd2 : (out ++ [sm[i]]).Nodup := by
          rw [List.nodup_append]
          exact ⟨hnd, by simp, fun a ha b hb => by simp only [List.mem_singleton] at hb; rw [hb]; exact fun h => hnm (h ▸ ha)⟩
        have hsub2 : ∀ n ∈ out ++ [sm[i]], n ∈ sm := fun n hn => by
          rcases List.mem_append.1 hn with hn | hn
          · exact hsub n hn
          · simp only [List.mem_singleton] at hn; rw [hn]; exact List.getElem_mem hlt
        have hl2 := nodup_sub_len hnd2 hsub2
        simp only [List.length_append, List.length_singleton] at hl2
        have e1 : out.map nD ++ [D.v (.int .i64 (sm[i] : Int))] = (out ++ [sm[i]]).map nD := by simp [nD]
        rw [e1]
        refine ih1 (out ++ [sm[i]]) _ _ ⟨ob, ⟨hnd2, hsub2, ?_, ?_⟩, rfl, rfl⟩ (by simp; omega)
        · rw [← hfin, show sm.length - out.length = (sm.length - (out ++ [sm[i]]).length) + 1 by simp; omega]
          rw [orderF, hfind]
        · rw [← e1]; exact hgr2.app hz hf
  · have hie : i = sm.length := by simp at h15; omega
    subst hie
    rw [List.take_length] at hno
    have hnone : sm.find? (ready ah out) = none := List.find?_eq_none.2 fun x hx => by rw [hno x hx]; simp
    have hend : orderL ah sm = out := by
      rw [← hfin]
      cases sm.length - out.length with
      | zero => rfl
      | succ k => rw [orderF, hnone]
    refine Goes.exit rfl ?_
    refine Goes.seq ?_
    rw [← hτ]
    refine Goes.le (ELe.refl _) (hgr.drop hdb).2 ?_
    refine Goes.region [6] fun K hK => ?_; simp (maxSteps := 4000000) only [go_sem, ↓reduceIte, reduceCtorEq, zqa, zqb, zqc, zqd, zqe, zqf, zqg, zqh, zqi, zqj, zqk, zql, zqm]
    refine hK _ _ ?_; clear hK K
    refine Goes.ret hC Tryz.func56 (by simp [go_sem]) ?_
    simp only [go_sem, ↓reduceIte, reduceCtorEq, zqa, zqb, zqc, zqd, zqe, zqf, zqg, zqh, zqi, zqj, zqk, zql, zqm]
    rw [hend]
    exact ⟨o, (hgr.drop hdb).1, rfl, rfl⟩
theorem order_calls (x0 x1 x2 : D) (ah : List (List Nat)) (sm : List Nat) (σ : Store) (hl : sm.length < 2 ^ 30) (hs : ∀ n ∈ sm, n < ah.length) (hah : ∀ l ∈ ah, l.length < 2 ^ 30) :
    ACalls Tryz.prog 56 [.elt [x0, x1, x2, .slc (ah.map fun l => .slc (l.map nD))], .slc (sm.map nD)] σ (fun e σ' => e = .ret (.slc ((orderL ah sm).map nD)) ∧ σ' = σ) :=
  ACalls.pubOwn (order_own x0 x1 x2 ah sm [] hl hs hah) σ
end Go.Ab.S16
set_option linter.unusedSimpArgs false
set_option linter.unusedVariables false
set_option linter.constructorNameAsVariable false
namespace Go.Ab.S16
open Go Go.Proofs
def vI (n : Nat) : Value := .int .i64 (n : Int)
@[go_sem] theorem toV_nD (n : Nat) : toV (nD n) = some (vI n) := rfl
/-- What is met, and what is new. -/
def visitL (met ns : List Nat) : List Nat := ns.foldl (fun m n => if m.contains n then m else m ++ [n]) met
theorem visitL_succ (met ns : List Nat) (i : Nat) (h : i < ns.length) : visitL met (ns.take (i + 1)) = if (visitL met (ns.take i)).contains ns[i] then visitL met (ns.take i) else visitL met (ns.take i) ++ [ns[i]] := by
  unfold visitL
  rw [List.take_succ_eq_append_getElem h, List.foldl_append]
  rfl
theorem visitL_cons (met ns : List Nat) (n : Nat) : visitL met (n :: ns) = visitL (if met.contains n then met else met ++ [n]) ns := rfl
theorem visitL_le : ∀ (ns met : List Nat), met.length ≤ (visitL met ns).length
  | [], met => Nat.le_refl _
  | n :: ns, met => by
    rw [visitL_cons]
    split
    · exact visitL_le ns met
    · exact Nat.le_trans (by simp) (visitL_le ns _)
theorem visitL_nodup : ∀ (ns met : List Nat), met.Nodup → (visitL met ns).Nodup
  | [], met, h => h
  | n :: ns, met, h => by
    rw [visitL_cons]
    split
    · exact visitL_nodup ns met h
    · rename_i hn
      refine visitL_nodup ns _ ?_
      rw [List.nodup_append]
      exact ⟨h, by simp, fun a ha b hb => by simp only [List.mem_singleton] at hb; rw [hb]; exact fun e => hn (by rw [List.contains_iff_mem]; exact e ▸ ha)⟩
theorem visitL_mem : ∀ (ns met : List Nat) (x : Nat), x ∈ visitL met ns ↔ x ∈ met ∨ x ∈ ns
  | [], met, x => by simp [visitL]
  | n :: ns, met, x => by
    rw [visitL_cons, visitL_mem ns]
    split
    · rename_i hn
      rw [List.contains_iff_mem] at hn
      constructor
      · rintro (h | h)
        · exact .inl h
        · exact .inr (.tail _ h)
      · rintro (h | h)
        · exact .inl h
        · rcases List.mem_cons.1 h with rfl | h
          · exact .inl hn
          · exact .inr h
    · rw [List.mem_append, List.mem_singleton, List.mem_cons]
      constructor
      · rintro ((h | h) | h)
        · exact .inl h
        · exact .inr (.inl h)
        · exact .inr (.inr h)
      · rintro (h | h | h)
        · exact .inl (.inl h)
        · exact .inl (.inr h)
        · exact .inr h
/-- What the search has at hand: the queue's variable, the queue, the variable of what is met, what is met. -/
def rdS (bq cb bm db cap : Nat) (met q : List Nat) (σ : Store) : Store := (bq, .arr 1 [.v (.chan (some cb))]) :: (cb, .ch cap (q.map vI)) :: (bm, .arr 1 [.map db]) :: (db, .mp (mkDone met)) :: σ
structure RdN (bq cb bm db : Nat) : Prop where
  qc : bq ≠ cb
  qm : bq ≠ bm
  qd : bq ≠ db
  cm : cb ≠ bm
  cd : cb ≠ db
  md : bm ≠ db
variable {bq cb bm db cap : Nat} {met q : List Nat} {σ : Store}
theorem rd_q : sget bq (rdS bq cb bm db cap met q σ) = some (.arr 1 [.v (.chan (some cb))]) := by simp [rdS, sget]
theorem rd_c (h : RdN bq cb bm db) : sget cb (rdS bq cb bm db cap met q σ) = some (.ch cap (q.map vI)) := by simp [rdS, sget, h.qc.symm]
theorem rd_m (h : RdN bq cb bm db) : sget bm (rdS bq cb bm db cap met q σ) = some (.arr 1 [.map db]) := by simp [rdS, sget, h.qm.symm, h.cm.symm]
theorem rd_d (h : RdN bq cb bm db) : sget db (rdS bq cb bm db cap met q σ) = some (.mp (mkDone met)) := by simp [rdS, sget, h.qd.symm, h.cd.symm, h.md.symm]
theorem rd_sc (h : RdN bq cb bm db) (q' : List Nat) : sset cb (.ch cap (q'.map vI)) (rdS bq cb bm db cap met q σ) = rdS bq cb bm db cap met q' σ := by simp [rdS, sset, h.qc.symm]
theorem rd_sd (h : RdN bq cb bm db) (met' : List Nat) : sset db (.mp (mkDone met')) (rdS bq cb bm db cap met q σ) = rdS bq cb bm db cap met' q σ := by simp [rdS, sset, h.qd.symm, h.cd.symm, h.md.symm]
theorem at0 {α : Type} (a : α) (l : List α) : (a :: l).toArray[0]? = some a := rfl
theorem at1 {α : Type} (a b : α) (l : List α) : (a :: b :: l).toArray[1]? = some b := rfl
theorem at2 {α : Type} (a b c : α) (l : List α) : (a :: b :: c :: l).toArray[2]? = some c := rfl
theorem dstB_lit {n j : Nat} (h : j < n := by decide) : dstB ⟨n, []⟩ (some j) := ⟨h, trivial⟩
theorem reached1_calls (h : RdN bq cb bm db) (ns met : List Nat) (k B : Nat) (hl : ns.length < 2 ^ 30) (hcap : B < cap) (hns : ∀ n ∈ ns, n < B) (hmet : ∀ n ∈ met, n < B) (hnd : met.Nodup) (hk : k ≤ met.length) :
    ACalls Tryz.prog 99 [.slc (ns.map nD), .ptr bm 1 0 0, .ptr bq 1 0 0] (rdS bq cb bm db cap met (met.drop k) σ)
      (fun e σ' => e = .ret (.tup []) ∧ σ' = rdS bq cb bm db cap (visitL met ns) ((visitL met ns).drop k) σ) := by
  have hll : (ns.map nD).length = ns.length := List.length_map ..
  refine ACalls.of_body Tryz.func99 rfl Tryz.ntmps99 (by simp) fun C hC => ?_
  refine Goes.seq ?_
  refine Goes.region [0, 1, 2] fun K hK => ?_; simp (maxSteps := 4000000) only [go_sem, ↓reduceIte, reduceCtorEq, zqa, zqb, zqc, zqd, zqe, zqf, zqg, zqh, zqi, zqj, zqk, zql, zqm]
  refine hK _ _ ?_; clear hK K
  refine Goes.block ?_
  refine Goes.rebase [1, 2, 6, 7, 8] ?_
  simp only [go_sem, ↓reduceIte, reduceCtorEq, zqa, zqb, zqc, zqd, zqe, zqf, zqg, zqh, zqi, zqj, zqk, zql, zqm]
  refine Goes.while (fun (i : Nat) env' σ'' => (i ≤ ns.length) ∧ env' = [(1, .ptr bm 1 0 0), (2, .ptr bq 1 0 0), (6, .slc (ns.map nD)), (7, .v (.int .i64 (ns.length : Int))), (8, .v (.int .i64 (i : Int)))] ∧ σ'' = rdS bq cb bm db cap (visitL met (ns.take i)) ((visitL met (ns.take i)).drop k) σ) (fun (i : Nat) => ns.length - i) 0 ⟨by omega, by rw [hll]; rfl, rfl⟩ ?_
  rintro i env' σ'' ⟨hi, rfl, rfl⟩ ih
  have ih1 := ih
  refine Goes.seq ?_
  refine Goes.region [1, 2, 6, 7, 8] fun K hK => ?_; simp (maxSteps := 4000000) only [go_sem, ↓reduceIte, reduceCtorEq, zqa, zqb, zqc, zqd, zqe, zqf, zqg, zqh, zqi, zqj, zqk, zql, zqm]
  refine hK _ _ ?_; clear hK K
  refine Goes.seq ?_
  refine Goes.cond rfl (fun h9 => ?_) (fun h9 => ?_)
  · have hlt : i < ns.length := by simpa using h9
    have hg := getD_map_lt nD ns i hlt
    rw [nD] at hg
    have hi0 : (0 : Int) ≤ (i : Int) := by omega
    have hi1 : (i : Int) < ((ns.map nD).length : Int) := by omega
    have hsu := visitL_succ met ns i hlt
    have hq := @rd_q bq cb bm db cap (visitL met (ns.take i)) ((visitL met (ns.take i)).drop k) σ
    have hm := @rd_m bq cb bm db cap (visitL met (ns.take i)) ((visitL met (ns.take i)).drop k) σ h
    have hd := @rd_d bq cb bm db cap (visitL met (ns.take i)) ((visitL met (ns.take i)).drop k) σ h
    have hfd := mfind_done (visitL met (ns.take i)) ns[i]
    have hlk := done_like (visitL met (ns.take i)) ns[i]
    have hvn := visitL_nodup (ns.take i) met hnd
    have hvB : ∀ x ∈ visitL met (ns.take i), x < B := fun x hx => by
      rcases (visitL_mem (ns.take i) met x).1 hx with hx | hx
      · exact hmet x hx
      · exact hns x (List.mem_of_mem_take hx)
    have hvl := nodup_sub_len hvn (m := List.range B) (fun x hx => List.mem_range.2 (hvB x hx))
    rw [List.length_range] at hvl
    have hvk : k ≤ (visitL met (ns.take i)).length := Nat.le_trans hk (visitL_le (ns.take i) met)
    refine Goes.skip ?_
    refine Goes.seq ?_
    refine Goes.block ?_
    refine Goes.seq ?_
    refine Goes.region [1, 2, 6, 7, 8] fun K hK => ?_; simp (maxSteps := 4000000) only [go_sem, ↓reduceIte, reduceCtorEq, zqa, zqb, zqc, zqd, zqe, zqf, zqg, zqh, zqi, zqj, zqk, zql, zqm, hg, hi0, hi1]
    refine hK _ _ ?_; clear hK K
    refine Goes.seq ?_
    refine Goes.region [1, 2, 5, 6, 7, 8] fun K hK => ?_; simp (maxSteps := 4000000) only [go_sem, ↓reduceIte, reduceCtorEq, zqa, zqb, zqc, zqd, zqe, zqf, zqg, zqh, zqi, zqj, zqk, zql, zqm, hm, hd, hfd]
    refine ⟨⟨rfl, hlk⟩, ?_⟩
    refine hK _ _ ?_; clear hK K
    refine Goes.cond rfl (fun h15 => ?_) (fun h15 => ?_)
    · have hnc : (visitL met (ns.take i)).contains ns[i] = false := by simpa using h15
      rw [hnc] at hsu
      have hms := mset_done (visitL met (ns.take i)) ns[i] hnc
      have hsd := @rd_sd bq cb bm db cap (visitL met (ns.take i)) ((visitL met (ns.take i)).drop k) σ h (visitL met (ns.take i) ++ [ns[i]])
      refine Goes.seq ?_
      refine Goes.region [1, 2, 5, 6, 7, 8] fun K hK => ?_; simp (maxSteps := 4000000) only [go_sem, ↓reduceIte, reduceCtorEq, zqa, zqb, zqc, zqd, zqe, zqf, zqg, zqh, zqi, zqj, zqk, zql, zqm, hm, hd, hms, hsd]
      refine ⟨⟨rfl, hlk⟩, ?_⟩
      refine hK _ _ ?_; clear hK K
      refine Goes.regionOpen [1, 2, 5, 6, 7, 8] ?_
      refine Goes.op (at0 _ _) rfl nofun dstB_lit ?_
      simp only [go_sem, ↓reduceIte, reduceCtorEq, zqa, zqb, zqc, zqd, zqe, zqf, zqg, zqh, zqi, zqj, zqk, zql, zqm, rd_q]
      refine Goes.op (at1 _ _ _) rfl nofun dstB_lit ?_
      simp only [go_sem, ↓reduceIte, reduceCtorEq, zqa, zqb, zqc, zqd, zqe, zqf, zqg, zqh, zqi, zqj, zqk, zql, zqm]
      refine Goes.opSend hC.kind hC.round (at2 _ _ _ _) rfl rfl rfl rfl rfl (rd_c h) ?_ ?_
      · simp only [List.length_map, List.length_drop]; omega
      have hsc := @rd_sc bq cb bm db cap (visitL met (ns.take i) ++ [ns[i]]) ((visitL met (ns.take i)).drop k) σ h ((visitL met (ns.take i)).drop k ++ [ns[i]])
      rw [List.map_append] at hsc
      have hsc2 := hsc.trans (show _ = rdS bq cb bm db cap (visitL met (ns.take i) ++ [ns[i]]) ((visitL met (ns.take i) ++ [ns[i]]).drop k) σ by rw [List.drop_append_of_le_length hvk])
      refine Goes.regionEnd ?_
      refine (congrArg (Goes C _ _) hsc2).mpr ?_
      refine Goes.inBlock ?_
      refine Goes.region [1, 2, 6, 7, 8] fun K hK => ?_; simp (maxSteps := 4000000) only [go_sem, ↓reduceIte, reduceCtorEq, zqa, zqb, zqc, zqd, zqe, zqf, zqg, zqh, zqi, zqj, zqk, zql, zqm]
      refine hK _ _ ?_; clear hK K
      refine Goes.rebase [1, 2, 6, 7, 8] ?_
      simp only [go_sem, ↓reduceIte, reduceCtorEq, zqa, zqb, zqc, zqd, zqe, zqf, zqg, zqh, zqi, zqj, zqk, zql, zqm]
      rw [wrap_succ i (by omega)]
      exact ih (i + 1) _ _ ⟨by omega, rfl, by rw [hsu]; rfl⟩ (by omega)
    · refine Goes.skip ?_
      refine Goes.inBlock ?_
      refine Goes.region [1, 2, 6, 7, 8] fun K hK => ?_; simp (maxSteps := 4000000) only [go_sem, ↓reduceIte, reduceCtorEq, zqa, zqb, zqc, zqd, zqe, zqf, zqg, zqh, zqi, zqj, zqk, zql, zqm]
      refine hK _ _ ?_; clear hK K
      refine Goes.rebase [1, 2, 6, 7, 8] ?_
      simp only [go_sem, ↓reduceIte, reduceCtorEq, zqa, zqb, zqc, zqd, zqe, zqf, zqg, zqh, zqi, zqj, zqk, zql, zqm]
      have hc : (visitL met (ns.take i)).contains ns[i] = true := by simpa using h15
      rw [hc] at hsu
      rw [wrap_succ i (by omega)]
      exact ih (i + 1) _ _ ⟨by omega, rfl, by rw [hsu]; rfl⟩ (by omega)
  · have : i = ns.length := by simp at h9; omega
    subst this
    refine Goes.exit rfl ?_
    refine Goes.done hC Tryz.func99 (by simp [go_sem]) ?_
    simp only [go_sem, ↓reduceIte, reduceCtorEq, zqa, zqb, zqc, zqd, zqe, zqf, zqg, zqh, zqi, zqj, zqk, zql, zqm]
    rw [List.take_length]
end Go.Ab.S16
set_option linter.unusedSimpArgs false
set_option linter.unusedVariables false
set_option linter.constructorNameAsVariable false
namespace Go.Ab
open Go Go.RowKit
variable {P : Program} {f : FuncId} {args : List D} {σ : Store}
theorem flat_v (xs : List Value) : flat (xs.map D.v) = xs.map D.v := by
  induction xs with
  | nil => rfl
  | cons x xs ih => show (D.v x).cells ++ flat (xs.map D.v) = _; rw [ih]; rfl
theorem ACalls.of_row {e0 : TypeId} {R : List Value → Prop} (h : ∀ (w : World) (S : Nat → Prop) (vs : List Value), SOk w S → RepStore w S σ → RepL w S args vs → Calls P f vs.toArray w fun e w' => ∃ (v : Value) (xs : List Value), e = .returned v ∧ w'.ownsRow w.heap.size e0 1 v xs.length xs ∧ xs.all Value.oneCell' = true ∧ R xs ∧ Below w.heap.size w w') :
    ACalls P f args σ (fun e σ' => ∃ o xs, R xs ∧ GrD o 1 (xs.map .v) σ ∧ e = .ret (.own o 1 (xs.map D.v).length) ∧ σ' = cellsOf o 1 (xs.map .v) ++ σ) := by
  intro w S vs hS hst hr
  refine (h w S vs hS hst hr).mono ?_
  rintro e w' ⟨v, xs, rfl, ⟨hl, hrow⟩, hok, hR, hb⟩
  rcases hrow with ⟨rfl, hn⟩ | ⟨g, cap, cur, rfl, hbase, hg, hcap, hmax, hsz, htk⟩
  · obtain rfl : xs = [] := List.length_eq_zero_iff.1 hn
    exact ⟨.ret (.own none 1 0), σ, S, ⟨none, [], hR, GrD.nil _ _, rfl, rfl⟩, .own0, store_below hS.lt hst hb, fr_below hS.lt hb⟩
  · have hfr : sget g σ = none := by
      cases hs : sget g σ with
      | none => rfl
      | some o => have := (hst g o hs).2.lt; omega
    have hnS : ¬ S g := fun hs => by have := hS.lt g hs; omega
    have hF := fr_below (σ := σ) hS.lt hb
    refine ⟨.ret (.own (some g) 1 xs.length), (g, .arr 1 (xs.map .v)) :: σ, S, ⟨some g, xs, hR, ⟨fun b he => by cases he; exact hfr, nofun⟩, by rw [List.length_map], rfl⟩, ?_, ?_, ?_⟩
    · exact .own hg hcap (by omega) hmax
    · intro b o hbo
      rw [sget_cons] at hbo
      split at hbo
      · cases hbo
        rename_i hbg
        subst hbg
        refine ⟨hnS, cur, e0, 0, 0, xs, hg, ?_, ?_, ?_, .inl (Nat.le_refl _)⟩
        · rw [flat_v]; exact repL_v _ hok
        · intro k x hk
          rw [← htk, Nat.mul_one, List.getElem?_take] at hk
          split at hk
          · simpa using hk
          · cases hk
        · intro x hx
          obtain ⟨y, _, rfl⟩ := List.mem_map.1 hx
          rfl
      · exact store_below hS.lt hst hb b o hbo
    · refine { hF with dom := fun b hd => ?_ }
      unfold sdom at *
      rw [sget_cons] at hd
      by_cases hbg : b = g
      · exact .inr (by omega)
      · rw [if_neg hbg] at hd; exact .inl hd
end Go.Ab
namespace Go.Proofs
open Go.Shelf
def Tryz.keysS_ren : Go.Shelf.Ren := ⟨fun | 7 => 96 | 10 => 126 | n => n, fun | 23 => 99 | 26 => 9 | 3 => 3 | 28 => 151 | 0 => 0 | 27 => 150 | 33 => 43 | 4 => 4 | n => n, fun | n => n⟩
theorem Tryz.keysS : Go.Proofs.SlLaysZ.n7 Tryz.prog Tryz.keysS_ren := {
  mixed := by kernel_rfl
  f7 := ⟨Tryz.f96.name, by decide, Tryz.func96.trans (congrArg some (by kernel_rfl))⟩
  f10 := ⟨Tryz.f126.name, by decide, Tryz.func126.trans (congrArg some (by kernel_rfl))⟩
  t0 := Tryz.underlying0
  a0 := Tryz.isAgg0
  z0 := Tryz.sizeOf0
  v0 := Tryz.zeroValue0
  t4 := Tryz.underlying4
  a4 := Tryz.isAgg4
  z4 := Tryz.sizeOf4
  v4 := Tryz.zeroValue4
  t23 := Tryz.underlying99
  a23 := Tryz.isAgg99
  z23 := Tryz.sizeOf99
  v23 := Tryz.zeroValue99
  t26 := Tryz.underlying9
  a26 := Tryz.isAgg9
  z26 := Tryz.sizeOf9
  v26 := Tryz.zeroValue9
  t27 := Tryz.underlying150
  a27 := Tryz.isAgg150
  z27 := Tryz.sizeOf150
  v27 := Tryz.zeroValue150
  t28 := Tryz.underlying151
  a28 := Tryz.isAgg151
  z28 := Tryz.sizeOf151
  v28 := Tryz.zeroValue151
  t33 := Tryz.underlying43
  a33 := Tryz.isAgg43
  z33 := Tryz.sizeOf43
  v33 := Tryz.zeroValue43 }
def Tryz.sortedS_ren : Go.Shelf.Ren := ⟨fun | 6 => 95 | 8 => 125 | 9 => 94 | 11 => 154 | 13 => 124 | 12 => 123 | 23 => 152 | 24 => 153 | 14 => 144 | 15 => 145 | 16 => 146 | 17 => 147 | 18 => 148 | 19 => 149 | 20 => 92 | 21 => 150 | 22 => 151 | 25 => 172 | 26 => 173 | 27 => 174 | 28 => 175 | 29 => 176 | 30 => 122 | 31 => 199 | n => n, fun | 26 => 9 | 28 => 151 | 24 => 23 | 0 => 0 | 3 => 3 | 37 => 146 | 48 => 208 | 50 => 170 | 4 => 4 | 40 => 202 | 39 => 201 | 45 => 75 | 5 => 5 | 9 => 9 | 51 => 223 | 55 => 173 | 57 => 249 | 58 => 250 | 33 => 43 | n => n, fun | n => n⟩
theorem Tryz.sortedS : Go.Proofs.SlLaysZ.n6 Tryz.prog Tryz.sortedS_ren := {
  mixed := by kernel_rfl
  f6 := ⟨Tryz.f95.name, by decide, Tryz.func95.trans (congrArg some (by kernel_rfl))⟩
  f8 := ⟨Tryz.f125.name, by decide, Tryz.func125.trans (congrArg some (by kernel_rfl))⟩
  f11 := ⟨Tryz.f154.name, by decide, Tryz.func154.trans (congrArg some (by kernel_rfl))⟩
  t0 := Tryz.underlying0
  a0 := Tryz.isAgg0
  z0 := Tryz.sizeOf0
  v0 := Tryz.zeroValue0
  t24 := Tryz.underlying23
  a24 := Tryz.isAgg23
  z24 := Tryz.sizeOf23
  v24 := Tryz.zeroValue23
  t26 := Tryz.underlying9
  a26 := Tryz.isAgg9
  z26 := Tryz.sizeOf9
  v26 := Tryz.zeroValue9
  t28 := Tryz.underlying151
  a28 := Tryz.isAgg151
  z28 := Tryz.sizeOf151
  v28 := Tryz.zeroValue151
  i26 := by kernel_rfl }
def Tryz.sortS_ren : Go.Shelf.Ren := ⟨fun | 6 => 94 | 8 => 124 | 9 => 123 | 19 => 152 | 20 => 153 | 21 => 144 | 22 => 145 | 23 => 146 | 24 => 147 | 25 => 148 | 26 => 149 | 27 => 92 | 28 => 150 | 29 => 151 | 36 => 172 | 31 => 173 | 32 => 174 | 37 => 175 | 38 => 176 | 39 => 122 | 41 => 199 | n => n, fun | 27 => 23 | 29 => 9 | 3 => 3 | 32 => 146 | 26 => 23 | 0 => 0 | 44 => 208 | 46 => 170 | 4 => 4 | 36 => 202 | 35 => 201 | 41 => 75 | 5 => 5 | 9 => 9 | 53 => 223 | 57 => 173 | 63 => 249 | 64 => 250 | n => n, fun | n => n⟩
theorem Tryz.sortS : Go.Proofs.SlLaysM.n6 Tryz.prog Tryz.sortS_ren := {
  mixed := by kernel_rfl
  f6 := ⟨Tryz.f94.name, by decide, Tryz.func94.trans (congrArg some (by kernel_rfl))⟩
  f8 := Tryz.func124.trans (congrArg some (by kernel_rfl))
  f9 := ⟨Tryz.f123.name, by decide, Tryz.func123.trans (congrArg some (by kernel_rfl))⟩
  f19 := Tryz.func152.trans (congrArg some (by kernel_rfl))
  f20 := Tryz.func153.trans (congrArg some (by kernel_rfl))
  f21 := ⟨Tryz.f144.name, by decide, Tryz.func144.trans (congrArg some (by kernel_rfl))⟩
  f22 := ⟨Tryz.f145.name, by decide, Tryz.func145.trans (congrArg some (by kernel_rfl))⟩
  f23 := ⟨Tryz.f146.name, by decide, Tryz.func146.trans (congrArg some (by kernel_rfl))⟩
  f24 := ⟨Tryz.f147.name, by decide, Tryz.func147.trans (congrArg some (by kernel_rfl))⟩
  f25 := ⟨Tryz.f148.name, by decide, Tryz.func148.trans (congrArg some (by kernel_rfl))⟩
  f26 := ⟨Tryz.f149.name, by decide, Tryz.func149.trans (congrArg some (by kernel_rfl))⟩
  f27 := ⟨Tryz.f92.name, by decide, Tryz.func92.trans (congrArg some (by kernel_rfl))⟩
  f28 := ⟨Tryz.f150.name, by decide, Tryz.func150.trans (congrArg some (by kernel_rfl))⟩
  f29 := ⟨Tryz.f151.name, by decide, Tryz.func151.trans (congrArg some (by kernel_rfl))⟩
  f31 := Tryz.func173.trans (congrArg some (by kernel_rfl))
  f32 := Tryz.func174.trans (congrArg some (by kernel_rfl))
  f36 := ⟨Tryz.f172.name, by decide, Tryz.func172.trans (congrArg some (by kernel_rfl))⟩
  f37 := ⟨Tryz.f175.name, by decide, Tryz.func175.trans (congrArg some (by kernel_rfl))⟩
  f38 := ⟨Tryz.f176.name, by decide, Tryz.func176.trans (congrArg some (by kernel_rfl))⟩
  f39 := ⟨Tryz.f122.name, by decide, Tryz.func122.trans (congrArg some (by kernel_rfl))⟩
  f41 := ⟨Tryz.f199.name, by decide, Tryz.func199.trans (congrArg some (by kernel_rfl))⟩
  t0 := Tryz.underlying0
  a0 := Tryz.isAgg0
  z0 := Tryz.sizeOf0
  v0 := Tryz.zeroValue0
  t3 := Tryz.underlying3
  a3 := Tryz.isAgg3
  z3 := Tryz.sizeOf3
  v3 := Tryz.zeroValue3
  t4 := Tryz.underlying4
  a4 := Tryz.isAgg4
  z4 := Tryz.sizeOf4
  v4 := Tryz.zeroValue4
  t5 := Tryz.underlying5
  a5 := Tryz.isAgg5
  z5 := Tryz.sizeOf5
  v5 := Tryz.zeroValue5
  t9 := Tryz.underlying9
  a9 := Tryz.isAgg9
  z9 := Tryz.sizeOf9
  v9 := Tryz.zeroValue9
  t26 := Tryz.underlying23
  a26 := Tryz.isAgg23
  z26 := Tryz.sizeOf23
  v26 := Tryz.zeroValue23
  t27 := Tryz.underlying23
  a27 := Tryz.isAgg23
  z27 := Tryz.sizeOf23
  v27 := Tryz.zeroValue23
  t29 := Tryz.underlying9
  a29 := Tryz.isAgg9
  z29 := Tryz.sizeOf9
  v29 := Tryz.zeroValue9
  t32 := Tryz.underlying146
  a32 := Tryz.isAgg146
  z32 := Tryz.sizeOf146
  v32 := Tryz.zeroValue146
  t35 := Tryz.underlying201
  a35 := Tryz.isAgg201
  z35 := Tryz.sizeOf201
  v35 := Tryz.zeroValue201
  t36 := Tryz.underlying202
  a36 := Tryz.isAgg202
  z36 := Tryz.sizeOf202
  v36 := Tryz.zeroValue202
  t41 := Tryz.underlying75
  a41 := Tryz.isAgg75
  z41 := Tryz.sizeOf75
  v41 := Tryz.zeroValue75
  t44 := Tryz.underlying208
  a44 := Tryz.isAgg208
  z44 := Tryz.sizeOf208
  v44 := Tryz.zeroValue208
  t46 := Tryz.underlying170
  a46 := Tryz.isAgg170
  z46 := Tryz.sizeOf170
  v46 := Tryz.zeroValue170
  t53 := Tryz.underlying223
  a53 := Tryz.isAgg223
  z53 := Tryz.sizeOf223
  v53 := Tryz.zeroValue223
  t57 := Tryz.underlying173
  a57 := Tryz.isAgg173
  z57 := Tryz.sizeOf173
  v57 := Tryz.zeroValue173
  t63 := Tryz.underlying249
  a63 := Tryz.isAgg249
  z63 := Tryz.sizeOf249
  v63 := Tryz.zeroValue249
  t64 := Tryz.underlying250
  a64 := Tryz.isAgg250
  z64 := Tryz.sizeOf250
  v64 := Tryz.zeroValue250 }
def Tryz.keysI_ren : Go.Shelf.Ren := ⟨fun | 7 => 101 | 10 => 129 | n => n, fun | 23 => 145 | 26 => 3 | 3 => 4 | 28 => 157 | 0 => 0 | 27 => 156 | 33 => 177 | 4 => 4 | n => n, fun | n => n⟩
theorem Tryz.keysI : Go.Proofs.SlLaysZI.n7 Tryz.prog Tryz.keysI_ren := {
  mixed := by kernel_rfl
  f7 := ⟨Tryz.f101.name, by decide, Tryz.func101.trans (congrArg some (by kernel_rfl))⟩
  f10 := ⟨Tryz.f129.name, by decide, Tryz.func129.trans (congrArg some (by kernel_rfl))⟩
  t0 := Tryz.underlying0
  a0 := Tryz.isAgg0
  z0 := Tryz.sizeOf0
  v0 := Tryz.zeroValue0
  t4 := Tryz.underlying4
  a4 := Tryz.isAgg4
  z4 := Tryz.sizeOf4
  v4 := Tryz.zeroValue4
  t23 := Tryz.underlying145
  a23 := Tryz.isAgg145
  z23 := Tryz.sizeOf145
  v23 := Tryz.zeroValue145
  t26 := Tryz.underlying3
  a26 := Tryz.isAgg3
  z26 := Tryz.sizeOf3
  v26 := Tryz.zeroValue3
  t27 := Tryz.underlying156
  a27 := Tryz.isAgg156
  z27 := Tryz.sizeOf156
  v27 := Tryz.zeroValue156
  t28 := Tryz.underlying157
  a28 := Tryz.isAgg157
  z28 := Tryz.sizeOf157
  v28 := Tryz.zeroValue157
  t33 := Tryz.underlying177
  a33 := Tryz.isAgg177
  z33 := Tryz.sizeOf177
  v33 := Tryz.zeroValue177 }
def Tryz.sortedI_ren : Go.Shelf.Ren := ⟨fun | 6 => 100 | 8 => 127 | 9 => 128 | 11 => 155 | 13 => 124 | 12 => 156 | 23 => 152 | 24 => 153 | 14 => 177 | 15 => 178 | 16 => 179 | 17 => 180 | 18 => 181 | 19 => 182 | 20 => 183 | 21 => 184 | 22 => 185 | 25 => 200 | 26 => 173 | 27 => 174 | 28 => 201 | 29 => 202 | 30 => 203 | 31 => 212 | n => n, fun | 26 => 3 | 28 => 157 | 24 => 72 | 0 => 0 | 3 => 3 | 37 => 146 | 48 => 208 | 50 => 170 | 4 => 4 | 40 => 202 | 39 => 201 | 45 => 75 | 5 => 5 | 9 => 9 | 51 => 223 | 55 => 173 | 57 => 249 | 58 => 250 | 33 => 177 | n => n, fun | n => n⟩
theorem Tryz.sortedI : Go.Proofs.SlLaysZI.n6 Tryz.prog Tryz.sortedI_ren := {
  mixed := by kernel_rfl
  f6 := ⟨Tryz.f100.name, by decide, Tryz.func100.trans (congrArg some (by kernel_rfl))⟩
  f8 := ⟨Tryz.f127.name, by decide, Tryz.func127.trans (congrArg some (by kernel_rfl))⟩
  f11 := ⟨Tryz.f155.name, by decide, Tryz.func155.trans (congrArg some (by kernel_rfl))⟩
  t0 := Tryz.underlying0
  a0 := Tryz.isAgg0
  z0 := Tryz.sizeOf0
  v0 := Tryz.zeroValue0
  t24 := Tryz.underlying72
  a24 := Tryz.isAgg72
  z24 := Tryz.sizeOf72
  v24 := Tryz.zeroValue72
  t26 := Tryz.underlying3
  a26 := Tryz.isAgg3
  z26 := Tryz.sizeOf3
  v26 := Tryz.zeroValue3
  t28 := Tryz.underlying157
  a28 := Tryz.isAgg157
  z28 := Tryz.sizeOf157
  v28 := Tryz.zeroValue157
  i26 := by kernel_rfl }
def Tryz.sortI_ren : Go.Shelf.Ren := ⟨fun | 5 => 128 | 8 => 124 | 7 => 156 | 19 => 152 | 20 => 153 | 10 => 177 | 11 => 178 | 12 => 179 | 13 => 180 | 14 => 181 | 15 => 182 | 16 => 183 | 17 => 184 | 18 => 185 | 30 => 200 | 31 => 173 | 32 => 174 | 33 => 201 | 34 => 202 | 35 => 203 | 40 => 212 | n => n, fun | 23 => 72 | 25 => 3 | 3 => 3 | 32 => 146 | 22 => 72 | 0 => 0 | 44 => 208 | 46 => 170 | 4 => 4 | 36 => 202 | 35 => 201 | 41 => 75 | 5 => 5 | 9 => 9 | 53 => 223 | 57 => 173 | 63 => 249 | 64 => 250 | n => n, fun | n => n⟩
theorem Tryz.sortI : Go.Proofs.SlLaysM.n5 Tryz.prog Tryz.sortI_ren := {
  mixed := by kernel_rfl
  f5 := ⟨Tryz.f128.name, by decide, Tryz.func128.trans (congrArg some (by kernel_rfl))⟩
  f7 := ⟨Tryz.f156.name, by decide, Tryz.func156.trans (congrArg some (by kernel_rfl))⟩
  f8 := Tryz.func124.trans (congrArg some (by kernel_rfl))
  f10 := ⟨Tryz.f177.name, by decide, Tryz.func177.trans (congrArg some (by kernel_rfl))⟩
  f11 := ⟨Tryz.f178.name, by decide, Tryz.func178.trans (congrArg some (by kernel_rfl))⟩
  f12 := ⟨Tryz.f179.name, by decide, Tryz.func179.trans (congrArg some (by kernel_rfl))⟩
  f13 := ⟨Tryz.f180.name, by decide, Tryz.func180.trans (congrArg some (by kernel_rfl))⟩
  f14 := ⟨Tryz.f181.name, by decide, Tryz.func181.trans (congrArg some (by kernel_rfl))⟩
  f15 := ⟨Tryz.f182.name, by decide, Tryz.func182.trans (congrArg some (by kernel_rfl))⟩
  f16 := ⟨Tryz.f183.name, by decide, Tryz.func183.trans (congrArg some (by kernel_rfl))⟩
  f17 := ⟨Tryz.f184.name, by decide, Tryz.func184.trans (congrArg some (by kernel_rfl))⟩
  f18 := ⟨Tryz.f185.name, by decide, Tryz.func185.trans (congrArg some (by kernel_rfl))⟩
  f19 := Tryz.func152.trans (congrArg some (by kernel_rfl))
  f20 := Tryz.func153.trans (congrArg some (by kernel_rfl))
  f30 := ⟨Tryz.f200.name, by decide, Tryz.func200.trans (congrArg some (by kernel_rfl))⟩
  f31 := Tryz.func173.trans (congrArg some (by kernel_rfl))
  f32 := Tryz.func174.trans (congrArg some (by kernel_rfl))
  f33 := ⟨Tryz.f201.name, by decide, Tryz.func201.trans (congrArg some (by kernel_rfl))⟩
  f34 := ⟨Tryz.f202.name, by decide, Tryz.func202.trans (congrArg some (by kernel_rfl))⟩
  f35 := ⟨Tryz.f203.name, by decide, Tryz.func203.trans (congrArg some (by kernel_rfl))⟩
  f40 := ⟨Tryz.f212.name, by decide, Tryz.func212.trans (congrArg some (by kernel_rfl))⟩
  t0 := Tryz.underlying0
  a0 := Tryz.isAgg0
  z0 := Tryz.sizeOf0
  v0 := Tryz.zeroValue0
  t3 := Tryz.underlying3
  a3 := Tryz.isAgg3
  z3 := Tryz.sizeOf3
  v3 := Tryz.zeroValue3
  t4 := Tryz.underlying4
  a4 := Tryz.isAgg4
  z4 := Tryz.sizeOf4
  v4 := Tryz.zeroValue4
  t5 := Tryz.underlying5
  a5 := Tryz.isAgg5
  z5 := Tryz.sizeOf5
  v5 := Tryz.zeroValue5
  t9 := Tryz.underlying9
  a9 := Tryz.isAgg9
  z9 := Tryz.sizeOf9
  v9 := Tryz.zeroValue9
  t22 := Tryz.underlying72
  a22 := Tryz.isAgg72
  z22 := Tryz.sizeOf72
  v22 := Tryz.zeroValue72
  t23 := Tryz.underlying72
  a23 := Tryz.isAgg72
  z23 := Tryz.sizeOf72
  v23 := Tryz.zeroValue72
  t25 := Tryz.underlying3
  a25 := Tryz.isAgg3
  z25 := Tryz.sizeOf3
  v25 := Tryz.zeroValue3
  t32 := Tryz.underlying146
  a32 := Tryz.isAgg146
  z32 := Tryz.sizeOf146
  v32 := Tryz.zeroValue146
  t35 := Tryz.underlying201
  a35 := Tryz.isAgg201
  z35 := Tryz.sizeOf201
  v35 := Tryz.zeroValue201
  t36 := Tryz.underlying202
  a36 := Tryz.isAgg202
  z36 := Tryz.sizeOf202
  v36 := Tryz.zeroValue202
  t41 := Tryz.underlying75
  a41 := Tryz.isAgg75
  z41 := Tryz.sizeOf75
  v41 := Tryz.zeroValue75
  t44 := Tryz.underlying208
  a44 := Tryz.isAgg208
  z44 := Tryz.sizeOf208
  v44 := Tryz.zeroValue208
  t46 := Tryz.underlying170
  a46 := Tryz.isAgg170
  z46 := Tryz.sizeOf170
  v46 := Tryz.zeroValue170
  t53 := Tryz.underlying223
  a53 := Tryz.isAgg223
  z53 := Tryz.sizeOf223
  v53 := Tryz.zeroValue223
  t57 := Tryz.underlying173
  a57 := Tryz.isAgg173
  z57 := Tryz.sizeOf173
  v57 := Tryz.zeroValue173
  t63 := Tryz.underlying249
  a63 := Tryz.isAgg249
  z63 := Tryz.sizeOf249
  v63 := Tryz.zeroValue249
  t64 := Tryz.underlying250
  a64 := Tryz.isAgg250
  z64 := Tryz.sizeOf250
  v64 := Tryz.zeroValue250 }
end Go.Proofs
set_option linter.unusedSimpArgs false
set_option linter.unusedVariables false
set_option linter.constructorNameAsVariable false
namespace Go.Ab.S16
open Go Go.Proofs Go.RowKit Go.Maps Go.Sort Go.Shelf Go.MapKept
open Go.WideElems (Fit rd rg rd_mk rg_of)
def RT : Value → Option (DataW Unit × List MemPlace) := fun _ => some (.lit (.bool true), [])
theorem ownsSet {P : Program} {k : TypeId} {w : World} {S : Nat → Prop} {db : Nat} {es : List (Value × D)} (g : Value → Lit) (hk : ∀ e ∈ es, keyOf P k e.1 = some (g e.1)) (hnd : (es.map (·.1)).Nodup) (hl : es.length ≤ maxLen) (h : RepObj w S db (.mp es)) :
    ∃ L : List (Lit × DataW Unit), w.ownsMap P k RT db es.length (.map L) ∧ (L.map (·.1)).Perm (es.map fun e => g e.1) := by
  obtain ⟨entries, clock, hh, hr, hkeys, hborn, hbnd⟩ := h
  have hlen : entries.size = es.length := by
    have := congrArg List.length hkeys
    simpa using this.symm
  have hkk : ∀ x ∈ entries.toList, keyOf P k x.key = some (g x.key) := fun x hx => by
    have : x.key ∈ es.map (·.1) := by rw [hkeys]; exact List.mem_map_of_mem hx
    obtain ⟨e, he, h1⟩ := List.mem_map.1 this
    rw [← h1]; exact hk e he
  have hrd : ∀ x ∈ entries.toList , WideElems.rd P k RT x = some (g x.key, .lit (.bool true)) := fun x hx => by
    unfold WideElems.rd
    rw [hkk x hx]
    rfl
  refine ⟨(entries.toList.map (rg P k RT)).foldr DataW.insert [], ⟨entries, clock, hh, ⟨by omega, ⟨hborn, hbnd, by rw [← hkeys]; exact hnd⟩, fun x hx => ⟨_, hrd x hx⟩⟩, by omega, rfl⟩, ?_⟩
  refine ((WideShapes.sorted_perm _).map _).trans ?_
  have e1 : (entries.toList.map (rg P k RT)).map (·.1) = es.map fun e => g e.1 := by
    have e2 : (entries.toList.map (·.key)).map g = (es.map (·.1)).map g := by rw [hkeys]
    rw [List.map_map] at e2 ⊢
    rw [List.map_map] at e2
    rw [show (es.map fun e => g e.1) = es.map (g ∘ fun e => e.1) from rfl, ← e2]
    refine List.map_congr_left fun x hx => ?_
    show (rg P k RT x).1 = g x.key
    rw [rg_of (hrd x hx)]
  rw [e1]
def litOf : Value → Lit
  | .int _ a => .int .i64 a
  | .string s => .string s.data.toList
  | _ => .bool false
theorem sortsI (m : Nat) : AnyZI.SortsIn Tryz.prog Tryz.sortedI_ren Fence.wide m :=
  ⟨fun blk off cap ss W hH hblk hsz => callsIn_wide.2 (AnyM.slices_Sort_int Tryz.sortI blk off cap ss W hH hblk hsz),
   fun p cap W => callsIn_wide.2 (AnyM.slices_Sort_int_none Tryz.sortI p cap W)⟩
theorem done_keys (met : List Nat) : (mkDone met).map (·.1) = met.map vI := by unfold mkDone; rw [List.map_map]; rfl
theorem vI_nodup {met : List Nat} (h : met.Nodup) : (met.map vI).Nodup := by
  refine List.pairwise_map.2 (h.imp fun {a b} hab e => hab ?_)
  simp only [vI, Value.int.injEq, true_and] at e
  omega
/-- The numbers that a set holds, in order. -/
def sortN (met : List Nat) : List Int := (met.map fun n : Nat => (n : Int)).mergeSort leI
theorem sortedI_own (bk db : Nat) (met : List Nat) (σ : Store) (hk : sget bk σ = some (.arr 1 [.map db])) (hd : sget db σ = some (.mp (mkDone met))) (hnd : met.Nodup) (hl : met.length < 2 ^ 30) (hB : ∀ n ∈ met, n < 2 ^ 30) :
    ACalls Tryz.prog 100 [.clo (.func 129) [] [.ptr bk 1 0 0]] σ
      (fun e σ' => ∃ o xs, (xs = (sortN met).map encZ) ∧ GrD o 1 (xs.map .v) σ ∧ e = .ret (.own o 1 (xs.map D.v).length) ∧ σ' = cellsOf o 1 (xs.map .v) ++ σ) := by
  refine ACalls.of_row (e0 := 3) fun w S vs hS hst hr => ?_
  obtain ⟨v1, vs1, rfl, h1, h2⟩ := hr.cons_inv
  obtain rfl := h2.nil_inv
  cases h1 with
  | clo hf hc =>
  obtain rfl := hf.nil_inv
  obtain ⟨v1, vs1, rfl, h1, h2⟩ := hc.cons_inv
  obtain rfl := h2.nil_inv
  cases h1 with
  | ptr =>
  obtain ⟨hkS, hk2⟩ := hst bk _ hk
  obtain ⟨cK, eK, lo, hi, vals, hhk, hrk, hck, _, _⟩ := hk2
  obtain ⟨y, ys, rfl, hy, hys⟩ := RepL.cons_inv (d := .map db) (ds := []) hrk
  cases hy with
  | map =>
  obtain rfl := hys.nil_inv
  have hbk : bk < w.heap.size := (Array.getElem?_eq_some_iff.1 hhk).1
  have hcell : w.cell? ⟨bk, 0, none⟩ = some (.map (some db)) := by
    have := hck 0 _ rfl
    simp [World.cell?, hhk, this]
  obtain ⟨hdS, hd2⟩ := hst db _ hd
  obtain ⟨L, hown, hperm⟩ := ownsSet (P := Tryz.prog) (k := 3) (w := w) litOf (fun e he => by
    obtain ⟨n, hn, rfl⟩ := List.mem_map.1 he
    have := hB n hn
    exact keyOf_int_mk (q := .i64) Tryz.underlying3 (by simp only [Lit.wf, Bool.and_eq_true, decide_eq_true_eq]; exact ⟨Int.le_trans (show IntKind.min .i64 ≤ 0 by decide) (by omega), Int.le_trans (b := 2 ^ 30) (by omega) (by decide)⟩)) (by rw [done_keys]; exact vI_nodup hnd) (by simp [mkDone, maxLen]; omega) hd2
  have hsz : Maps.size (DataW.map L) = met.length := by
    have := hperm.length_eq
    rw [List.length_map, List.length_map] at this
    show L.length = _
    rw [this]; simp [mkDone]
  have hik : (intKeys (DataW.map L)).Perm (met.map fun n : Nat => (n : Int)) := by
    have h1 := hperm.map intOf
    rw [List.map_map] at h1
    refine h1.trans ?_
    unfold mkDone
    rw [List.map_map, List.map_map]
    exact List.Perm.refl _
  have hseq : SeqGives Fence.wide 2 Tryz.prog 129 #[.pointer (some ⟨bk, 0, none⟩)] encZ (fun ss => ss.Perm (intKeys (DataW.map L))) (Maps.size (DataW.map L)) w :=
    AnyZI.keys_gives (ρ := Tryz.keysI_ren) { Tryz.keysI with } Fence.wide _ trivial rfl (by omega) bk db _ (DataW.map L) w hbk hcell hown
  have cS := AnyZI.sorted_in Tryz.sortedI Fence.wide 5 trivial trivial trivial trivial rfl (by omega) (sortsI _) (enters_of Tryz.func128 (by kernel_rfl) rfl) 129 #[.pointer (some ⟨bk, 0, none⟩)] trivial (enters_of Tryz.func129 (by kernel_rfl) rfl) _ _ (by rw [hsz]; unfold maxLen; omega) (by rw [hsz]; omega) _ hseq
  change CallsIn _ _ Tryz.prog 100 _ _ _ at cS
  rw [show (0 : Nat) * 1 + 0 = 0 from rfl]
  refine (callsIn_wide.1 cS).mono ?_
  rintro e w' ⟨v, ss, rfl, hS', hrow, hnil, hb⟩
  have hss : ss.mergeSort leI = sortN met := mergeSort_of_perm_i (hS'.trans hik)
  refine ⟨v, _, rfl, ?_, ?_, rfl, hb⟩
  · have e1 : ((sortN met).map encZ).length = ss.length := by rw [← hss]; simp
    rw [e1, ← hss]
    exact hrow
  · simp [List.all_map]
    intro x _; rfl
end Go.Ab.S16
set_option linter.unusedSimpArgs false
set_option linter.unusedVariables false
set_option linter.constructorNameAsVariable false
namespace Go.Ab.S16
def insL {α : Type} (le : α → α → Bool) (x : α) : List α → List α
  | [] => [x]
  | y :: ys => if le x y = true then x :: y :: ys else y :: insL le x ys
def isort {α : Type} (le : α → α → Bool) : List α → List α
  | [] => []
  | x :: xs => insL le x (isort le xs)
section
variable {α : Type} {le : α → α → Bool}
theorem insL_perm (x : α) : ∀ l : List α, (insL le x l).Perm (x :: l)
  | [] => .refl _
  | y :: ys => by
    unfold insL
    split
    · exact .refl _
    · exact ((insL_perm x ys).cons y).trans (.swap x y ys)
theorem isort_perm : ∀ l : List α, (isort le l).Perm l
  | [] => .refl _
  | x :: xs => (insL_perm x _).trans ((isort_perm xs).cons x)
theorem insL_sorted (tr : ∀ a b c, le a b = true → le b c = true → le a c = true) (tot : ∀ a b, (le a b || le b a) = true) (x : α) : ∀ l : List α, l.Pairwise (fun a b => le a b = true) → (insL le x l).Pairwise (fun a b => le a b = true)
  | [], _ => by simp [insL]
  | y :: ys, h => by
    obtain ⟨h1, h2⟩ := List.pairwise_cons.1 h
    unfold insL
    split
    · rename_i hxy
      refine List.pairwise_cons.2 ⟨fun z hz => ?_, h⟩
      rcases List.mem_cons.1 hz with rfl | hz
      · exact hxy
      · exact tr x y z hxy (h1 z hz)
    · rename_i hxy
      refine List.pairwise_cons.2 ⟨fun z hz => ?_, insL_sorted tr tot x ys h2⟩
      rcases List.mem_cons.1 ((insL_perm x ys).mem_iff.1 hz) with rfl | hz
      · have := tot z y
        rw [Bool.or_eq_true] at this
        rcases this with h | h
        · exact absurd h hxy
        · exact h
      · exact h1 z hz
theorem isort_sorted (tr : ∀ a b c, le a b = true → le b c = true → le a c = true) (tot : ∀ a b, (le a b || le b a) = true) : ∀ l : List α, (isort le l).Pairwise (fun a b => le a b = true)
  | [] => .nil
  | x :: xs => insL_sorted tr tot x _ (isort_sorted tr tot xs)
theorem isort_eq (tr : ∀ a b c, le a b = true → le b c = true → le a c = true) (tot : ∀ a b, (le a b || le b a) = true) (anti : ∀ a b, le a b = true → le b a = true → a = b) (l : List α) : l.mergeSort le = isort le l :=
  List.Perm.eq_of_pairwise (le := fun a b => le a b = true) (fun a b _ _ h1 h2 => anti a b h1 h2) (List.pairwise_mergeSort tr tot l) (isort_sorted tr tot l) ((List.mergeSort_perm l le).trans (isort_perm l).symm)
end
theorem isortN_eq (l : List Nat) : (l.mergeSort fun x y => decide (x ≤ y)) = isort (fun x y => decide (x ≤ y)) l :=
  isort_eq (fun a b c h1 h2 => by simp at *; omega) (fun a b => by simp; omega) (fun a b h1 h2 => by simp at *; omega) l
end Go.Ab.S16
set_option linter.unusedSimpArgs false
set_option linter.unusedVariables false
set_option linter.constructorNameAsVariable false
namespace Go.Ab.S16
open Go Go.Proofs
theorem keysI_calls (db : Nat) (σ : Store) :
    ACalls Tryz.prog 101 [.map db] σ (fun e σ' => ∃ bk, sget bk σ = none ∧ e = .ret (.clo (.func 129) [] [.ptr bk 1 0 0]) ∧ σ' = (bk, .arr 1 [.map db]) :: σ) := by
  refine ACalls.of_body Tryz.func101 rfl Tryz.ntmps101 (by simp) fun C hC => ?_
  refine Goes.seq ?_
  refine Goes.region [0] fun K hK => ?_; simp (maxSteps := 4000000) only [go_sem, ↓reduceIte, reduceCtorEq, zqa, zqb, zqc, zqd, zqe, zqf, zqg, zqh, zqi, zqj, zqk, zql, zqm]
  intro bk hbk
  refine hK _ _ ?_; clear hK K
  refine Goes.seq ?_
  refine Goes.region [1] fun K hK => ?_; simp (maxSteps := 4000000) only [go_sem, ↓reduceIte, reduceCtorEq, zqa, zqb, zqc, zqd, zqe, zqf, zqg, zqh, zqi, zqj, zqk, zql, zqm]
  refine hK _ _ ?_; clear hK K
  refine Goes.ret hC Tryz.func101 (by simp [go_sem]) ?_
  simp only [go_sem, ↓reduceIte, reduceCtorEq, zqa, zqb, zqc, zqd, zqe, zqf, zqg, zqh, zqi, zqj, zqk, zql, zqm]
  exact ⟨bk, hbk, rfl, rfl⟩
/-- The search: each that is met is gone into once, in the order of the meeting. -/
def bfsF (ah : List (List Nat)) : Nat → Nat → List Nat → List Nat
  | 0, _, met => met
  | fuel + 1, k, met => if h : k < met.length then bfsF ah fuel (k + 1) (visitL met (ah.getD met[k] [])) else met
def reachedL (ah : List (List Nat)) (frm : List Nat) : List Nat := bfsF ah (ah.length + 1) 0 (visitL [] frm)
theorem mkchan (n : Int) : aMakeChan Tryz.prog 153 (.v (.int .i64 n)) = .new (0 ≤ n ∧ n < 2 ^ 40 ∧ ((8 : Nat) : Int) * n ≤ 2 ^ 46) (.ch n.toNat []) (fun b => .v (.chan (some b))) := by
  have h : rbytes Tryz.prog 3 = some 8 := by kernel_rfl
  have hu : Tryz.prog.underlying 153 = some (.chan .both 3) := Tryz.underlying153
  simp only [aMakeChan, hu, h]
theorem sget_none {b c : Nat} {o : AObj} {r : Store} (h : sget b ((c, o) :: r) = none) : b ≠ c ∧ sget b r = none := by
  rw [sget_cons] at h
  split at h
  · cases h
  · rename_i hn; exact ⟨hn, h⟩
structure RdF (bq cb bm db : Nat) (σ : Store) : Prop extends RdN bq cb bm db where
  fq : sget bq σ = none
  fc : sget cb σ = none
  fm : sget bm σ = none
  fd : sget db σ = none
theorem RdF.of {bq cb bm db : Nat} {σ : Store} {o1 o2 o3 o4 o5 o6 : AObj} (h1 : sget db σ = none) (h2 : sget bm ((db, o1) :: σ) = none) (h3 : sget cb ((bm, o2) :: (db, o3) :: σ) = none) (h4 : sget bq ((cb, o4) :: (bm, o5) :: (db, o6) :: σ) = none) : RdF bq cb bm db σ := by
  obtain ⟨a1, a2⟩ := sget_none h2
  obtain ⟨b1, b2⟩ := sget_none h3
  obtain ⟨b3, b4⟩ := sget_none b2
  obtain ⟨c1, c2⟩ := sget_none h4
  obtain ⟨c3, c4⟩ := sget_none c2
  obtain ⟨c5, c6⟩ := sget_none c4
  exact { qc := c1, qm := c3, qd := c5, cm := b1, cd := b3, md := a1, fq := c6, fc := b4, fm := a2, fd := h1 }
theorem RdF.drop {bq cb bm db cap : Nat} {met q : List Nat} {σ : Store} (h : RdF bq cb bm db σ) {o : Option Nat} {xs : List D} (hg : GrD o 1 xs (rdS bq cb bm db cap met q σ)) :
    GrD o 1 xs σ ∧ SLe (cellsOf o 1 xs ++ σ) (cellsOf o 1 xs ++ rdS bq cb bm db cap met q σ) := by
  unfold rdS at *
  obtain ⟨g1, l1⟩ := hg.drop (by simp [sget, h.qc, h.qm, h.qd, h.fq])
  obtain ⟨g2, l2⟩ := g1.drop (by simp [sget, h.cm, h.cd, h.fc])
  obtain ⟨g3, l3⟩ := g2.drop (by simp [sget, h.md, h.fm])
  obtain ⟨g4, l4⟩ := g3.drop h.fd
  exact ⟨g4, fun b o hb => l1 b o (l2 b o (l3 b o (l4 b o hb)))⟩
theorem reached_own (x1 x2 : D) (eds : List D) (ah : List (List Nat)) (frm : List Nat) (σ : Store) (hel : eds.length = ah.length) (hl : ah.length < 2 ^ 30) (hf : ∀ n ∈ frm, n < ah.length) (hfl : frm.length < 2 ^ 30) (hah : ∀ l ∈ ah, l.length < 2 ^ 30 ∧ ∀ n ∈ l, n < ah.length) :
    ACalls Tryz.prog 73 [.elt [.slc eds, x1, x2, .slc (ah.map fun l => .slc (l.map nD))], .slc (frm.map nD)] σ
      (fun e σ' => ∃ o xs, xs = (sortN (reachedL ah frm)).map iD ∧ GrD o 1 xs σ ∧ e = .ret (.own o 1 xs.length) ∧ σ' = cellsOf o 1 xs ++ σ) := by
  have hal : (ah.map fun l => D.slc (l.map nD)).length = ah.length := List.length_map ..
  have hwr := wrap_succ eds.length (by omega)
  refine ACalls.of_body Tryz.func73 rfl Tryz.ntmps73 (by simp) fun C hC => ?_
  refine Goes.seq ?_
  refine Goes.region [0, 1] fun K hK => ?_; simp (maxSteps := 4000000) only [go_sem, ↓reduceIte, reduceCtorEq, zqa, zqb, zqc, zqd, zqe, zqf, zqg, zqh, zqi, zqj, zqk, zql, zqm]
  refine hK _ _ ?_; clear hK K
  refine Goes.seq ?_
  refine Goes.region [0, 1] fun K hK => ?_; simp (maxSteps := 4000000) only [go_sem, ↓reduceIte, reduceCtorEq, zqa, zqb, zqc, zqd, zqe, zqf, zqg, zqh, zqi, zqj, zqk, zql, zqm]
  intro db hdb bm hbm
  refine hK _ _ ?_; clear hK K
  refine Goes.seq ?_
  refine Goes.region [0, 1, 5] fun K hK => ?_; simp (maxSteps := 4000000) only [go_sem, ↓reduceIte, reduceCtorEq, zqa, zqb, zqc, zqd, zqe, zqf, zqg, zqh, zqi, zqj, zqk, zql, zqm, hwr, mkchan]
  refine ⟨by omega, fun cb hcb bq hbq => ?_⟩
  have hN := RdF.of hdb hbm hcb hbq
  refine hK _ _ ?_; clear hK K
  change Goes C _ _ (rdS bq cb bm db (eds.length + 1) [] (([] : List Nat).drop 0) σ)
  refine Goes.seq ?_
  refine Goes.region [0, 1, 5, 6] fun K hK => ?_; simp (maxSteps := 4000000) only [go_sem, ↓reduceIte, reduceCtorEq, zqa, zqb, zqc, zqd, zqe, zqf, zqg, zqh, zqi, zqj, zqk, zql, zqm]
  refine hK _ _ ?_; clear hK K
  refine Goes.seq ?_
  refine Goes.region [0, 1, 5, 6, 7] fun K hK => ?_; simp (maxSteps := 4000000) only [go_sem, ↓reduceIte, reduceCtorEq, zqa, zqb, zqc, zqd, zqe, zqf, zqg, zqh, zqi, zqj, zqk, zql, zqm]
  refine ⟨_, Tryz.call99, (reached1_calls hN.toRdN frm [] 0 ah.length hfl (by omega) hf (by simp) List.nodup_nil (Nat.zero_le _)).mono ?_⟩
  rintro e σ1 ⟨rfl, rfl⟩
  simp only [go_sem, ↓reduceIte, reduceCtorEq, zqa, zqb, zqc, zqd, zqe, zqf, zqg, zqh, zqi, zqj, zqk, zql, zqm]
  refine hK _ _ ?_; clear hK K
  refine Goes.block ?_
  refine Goes.rebase [0, 5, 6, 7] ?_
  simp only [go_sem, ↓reduceIte, reduceCtorEq, zqa, zqb, zqc, zqd, zqe, zqf, zqg, zqh, zqi, zqj, zqk, zql, zqm]
  refine Goes.while (fun (k : Nat) env' σ'' => ∃ met : List Nat, (k ≤ met.length ∧ met.Nodup ∧ (∀ n ∈ met, n < ah.length) ∧ bfsF ah (ah.length + 1 - k) k met = reachedL ah frm) ∧ env' = [(0, .elt [.slc eds, x1, x2, .slc (ah.map fun l => .slc (l.map nD))]), (5, .ptr bm 1 0 0), (6, .ptr bq 1 0 0), (7, .clo (.func 99) [] [.ptr bm 1 0 0, .ptr bq 1 0 0])] ∧ σ'' = rdS bq cb bm db (eds.length + 1) met (met.drop k) σ) (fun (k : Nat) => ah.length + 1 - k) 0 ⟨visitL [] frm, ⟨Nat.zero_le _, visitL_nodup _ _ List.nodup_nil, fun n hn => (by rcases (visitL_mem frm [] n).1 hn with h | h; (· cases h); exact hf n h), rfl⟩, rfl, rfl⟩ ?_
  rintro k env' σ'' ⟨met, ⟨hk, hnd, hm, hfin⟩, rfl, rfl⟩ ih
  have ih1 := ih
  have hml := nodup_sub_len hnd (m := List.range ah.length) (fun x hx => List.mem_range.2 (hm x hx))
  rw [List.length_range] at hml
  refine Goes.block ?_
  refine Goes.seq ?_
  refine Goes.region [0, 5, 6, 7] fun K hK => ?_; simp (maxSteps := 4000000) only [go_sem, ↓reduceIte, reduceCtorEq, zqa, zqb, zqc, zqd, zqe, zqf, zqg, zqh, zqi, zqj, zqk, zql, zqm, rd_q]
  refine hK _ _ ?_; clear hK K
  refine Goes.seq ?_
  rcases hq : met.drop k with _ | ⟨x, q⟩
  · refine Goes.regionOpen [0, 5, 6, 7, 22] ?_
    refine Goes.opSelectNone hC.kind hC.round (at0 _ _) rfl (z := .int .i64 0) (by kernel_rfl) rfl rfl dstB_lit rfl (rd_c hN.toRdN) ?_
    simp only [go_sem, ↓reduceIte, reduceCtorEq, zqa, zqb, zqc, zqd, zqe, zqf, zqg, zqh, zqi, zqj, zqk, zql, zqm]
    refine Goes.op (at1 _ _ _) rfl nofun dstB_lit ?_
    simp only [go_sem, ↓reduceIte, reduceCtorEq, zqa, zqb, zqc, zqd, zqe, zqf, zqg, zqh, zqi, zqj, zqk, zql, zqm]
    refine Goes.op (at2 _ _ _ _) rfl nofun dstB_lit ?_
    simp only [go_sem, ↓reduceIte, reduceCtorEq, zqa, zqb, zqc, zqd, zqe, zqf, zqg, zqh, zqi, zqj, zqk, zql, zqm]
    refine Goes.regionEnd ?_
    have hkl : k = met.length := by
      have := congrArg List.length hq
      simp at this; omega
    have hend : reachedL ah frm = met := by
      rw [← hfin, show ah.length + 1 - k = (ah.length - k) + 1 by omega, bfsF, dif_neg (by omega)]
    refine Goes.block ?_
    refine Goes.condF rfl ?_
    refine Goes.seq ?_
    refine Goes.region [5] fun K hK => ?_; simp (maxSteps := 4000000) only [go_sem, ↓reduceIte, reduceCtorEq, zqa, zqb, zqc, zqd, zqe, zqf, zqg, zqh, zqi, zqj, zqk, zql, zqm, rd_m hN.toRdN]
    refine ⟨_, Tryz.call101, (keysI_calls db _).mono ?_⟩
    rintro e σ1 ⟨bk, hbk, rfl, rfl⟩
    simp only [go_sem, ↓reduceIte, reduceCtorEq, zqa, zqb, zqc, zqd, zqe, zqf, zqg, zqh, zqi, zqj, zqk, zql, zqm]
    refine ⟨_, Tryz.call100, (sortedI_own bk db met _ (sget_self ..) (by rw [sget_cons, if_neg (fun e => by rw [← e, rd_d hN.toRdN] at hbk; cases hbk)]; exact rd_d hN.toRdN) hnd (by omega) (fun n hn => by have := hm n hn; omega)).mono ?_⟩
    rintro e σ1 ⟨o, xs, rfl, hgr, rfl, rfl⟩
    simp only [go_sem, ↓reduceIte, reduceCtorEq, zqa, zqb, zqc, zqd, zqe, zqf, zqg, zqh, zqi, zqj, zqk, zql, zqm]
    refine hK _ _ ?_; clear hK K
    have hgr1 := hgr.drop hbk
    have hgr2 := hN.drop hgr1.1
    refine Goes.le (ELe.refl _) (fun b o hb => hgr1.2 b o (hgr2.2 b o hb)) ?_
    refine Goes.ret hC Tryz.func73 (by simp [go_sem]) ?_
    simp only [go_sem, ↓reduceIte, reduceCtorEq, zqa, zqb, zqc, zqd, zqe, zqf, zqg, zqh, zqi, zqj, zqk, zql, zqm]
    rw [hend]
    refine ⟨o, _, ?_, hgr2.1, rfl, rfl⟩
    rw [List.map_map]
    rfl
  · have hkl : k < met.length := by
      have := congrArg List.length hq
      simp at this; omega
    have hq2 := List.drop_eq_getElem_cons hkl
    rw [hq, List.cons.injEq] at hq2
    obtain ⟨rfl, rfl⟩ := hq2
    refine Goes.regionOpen [0, 5, 6, 7, 22] ?_
    refine Goes.opSelectRecv hC.kind hC.round (at0 _ _) rfl (z := .int .i64 0) (by kernel_rfl) rfl dstB_lit rfl (rd_c hN.toRdN) ?_
    rw [rd_sc hN.toRdN]
    simp only [go_sem, ↓reduceIte, reduceCtorEq, zqa, zqb, zqc, zqd, zqe, zqf, zqg, zqh, zqi, zqj, zqk, zql, zqm]
    refine Goes.op (at1 _ _ _) rfl nofun dstB_lit ?_
    simp only [go_sem, ↓reduceIte, reduceCtorEq, zqa, zqb, zqc, zqd, zqe, zqf, zqg, zqh, zqi, zqj, zqk, zql, zqm]
    refine Goes.op (at2 _ _ _ _) rfl nofun dstB_lit ?_
    simp only [go_sem, ↓reduceIte, reduceCtorEq, zqa, zqb, zqc, zqd, zqe, zqf, zqg, zqh, zqi, zqj, zqk, zql, zqm]
    refine Goes.regionEnd ?_
    have hn := hm met[k] (List.getElem_mem hkl)
    have hg2 := getD_map_lt (fun l => D.slc (l.map nD)) ah met[k] hn
    have hn0 : (0 : Int) ≤ (met[k] : Int) := by omega
    have hn1 : (met[k] : Int) < ((ah.map fun l => D.slc (l.map nD)).length : Int) := by omega
    have hfin2 : bfsF ah (ah.length + 1 - (k + 1)) (k + 1) (visitL met ah[met[k]]) = reachedL ah frm := by
      rw [← hfin, show ah.length + 1 - k = (ah.length + 1 - (k + 1)) + 1 by omega, bfsF, dif_pos hkl, getD_lt ah met[k] [] hn]
    have ha := hah _ (List.getElem_mem hn)
    refine Goes.block ?_
    refine Goes.condT rfl ?_
    refine Goes.seq ?_
    refine Goes.region [0, 5, 6, 7, 23] fun K hK => ?_; simp (maxSteps := 4000000) only [go_sem, ↓reduceIte, reduceCtorEq, zqa, zqb, zqc, zqd, zqe, zqf, zqg, zqh, zqi, zqj, zqk, zql, zqm]
    refine hK _ _ ?_; clear hK K
    refine Goes.region [0, 5, 6, 7, 8] fun K hK => ?_; simp (maxSteps := 4000000) only [go_sem, ↓reduceIte, reduceCtorEq, zqa, zqb, zqc, zqd, zqe, zqf, zqg, zqh, zqi, zqj, zqk, zql, zqm, hg2, hn0, hn1, vI]
    refine ⟨_, Tryz.call99, (reached1_calls hN.toRdN ah[met[k]] met (k + 1) ah.length ha.1 (by omega) ha.2 hm hnd (by omega)).mono ?_⟩
    rintro e σ1 ⟨rfl, rfl⟩
    simp only [go_sem, ↓reduceIte, reduceCtorEq, zqa, zqb, zqc, zqd, zqe, zqf, zqg, zqh, zqi, zqj, zqk, zql, zqm]
    refine hK _ _ ?_; clear hK K
    refine Goes.inBlock ?_
    refine Goes.inBlock ?_
    refine Goes.rebase [0, 5, 6, 7] ?_
    simp only [go_sem, ↓reduceIte, reduceCtorEq, zqa, zqb, zqc, zqd, zqe, zqf, zqg, zqh, zqi, zqj, zqk, zql, zqm]
    refine ih (k + 1) _ _ ⟨visitL met ah[met[k]], ⟨Nat.le_trans (by omega) (visitL_le _ _), visitL_nodup _ _ hnd, fun n hn => ?_, hfin2⟩, rfl, rfl⟩ (by omega)
    rcases (visitL_mem _ _ n).1 hn with h | h
    · exact hm n h
    · exact ha.2 n h
/-- What some edges lead to, in order. -/
def reachedS (ah : List (List Nat)) (frm : List Nat) : List Nat := isort (fun x y => decide (x ≤ y)) (reachedL ah frm)
theorem sortN_eq (l : List Nat) : (sortN l).map iD = (isort (fun x y => decide (x ≤ y)) l).map nD := by
  rw [← isortN_eq]
  unfold sortN
  rw [← List.map_mergeSort (r := fun x y : Nat => decide (x ≤ y)) (fun a _ b _ => by simp [leI]), List.map_map]
  rfl
theorem reached_calls (x1 x2 : D) (eds : List D) (ah : List (List Nat)) (frm : List Nat) (σ : Store) (hel : eds.length = ah.length) (hl : ah.length < 2 ^ 30) (hf : ∀ n ∈ frm, n < ah.length) (hfl : frm.length < 2 ^ 30) (hah : ∀ l ∈ ah, l.length < 2 ^ 30 ∧ ∀ n ∈ l, n < ah.length) :
    ACalls Tryz.prog 73 [.elt [.slc eds, x1, x2, .slc (ah.map fun l => .slc (l.map nD))], .slc (frm.map nD)] σ (fun e σ' => e = .ret (.slc ((reachedS ah frm).map nD)) ∧ σ' = σ) := by
  refine ACalls.pubOwn (sz := 1) ((reached_own x1 x2 eds ah frm [] hel hl hf hfl hah).mono ?_) σ
  rintro e σ' ⟨o, xs, rfl, hgr, rfl, rfl⟩
  rw [sortN_eq] at *
  exact ⟨o, hgr, rfl, rfl⟩
end Go.Ab.S16
set_option linter.unusedSimpArgs false
set_option linter.unusedVariables false
set_option linter.constructorNameAsVariable false
namespace Go.Ab
open Go
variable {P : Program} {N : Slots} {C : Ctx P N} {todo : List Item} {env : Env} {σ : Store}
theorem Goes.publishElt (k b : Nat) {n : Nat} {cs : List D} (hk : eget k env = .ptr b n 0 0) (hb : sget b σ = some (.arr n [.agg cs]))
    (h : Goes C todo (eput k (.elt cs) (epub b n [.agg cs] env)) (spub b n [.agg cs] σ)) : Goes C todo env σ := by
  intro a w S hd hs
  obtain ⟨hE, hst, hfr⟩ := pub_world hs.store hs.fr.lt hb
  have hob := (hs.store b _ hb).2
  refine h a w _ hd ⟨fun j => ?_, hst, hs.fr.trans hfr, hs.size⟩
  rw [eget_eput]
  split
  · rename_i hj
    subst hj
    have hr := hs.env j
    rw [hk] at hr
    obtain ⟨c', e', lo, hi, vals, hh', hrl, hcv, hsz, hfz⟩ := hob
    have hrl2 : RepL w S cs vals := by
      have : flat [D.agg cs] = cs := by simp [flat, D.cells]
      rw [this] at hrl; exact hrl
    generalize a.tmps.getD j undef = v at hr
    cases hr with
    | ptr =>
      rw [Nat.zero_mul]
      refine .elt (.inr rfl) (hrl2.ev hE) fun i x hx => ?_
      rw [Nat.zero_add, cells_of_row hh']
      exact hcv i x hx
  · rw [eget_epub]; exact rep_pub hE (.inr rfl) hob (hs.env j)
theorem GrD.swap {oa os : Option Nat} {sa so : Nat} {xa xo : List D} {ρ : Store} (ha : GrD oa sa xa (cellsOf os so xo ++ ρ)) (hs : GrD os so xo ρ) :
    GrD os so xo (cellsOf oa sa xa ++ ρ) ∧ GrD oa sa xa ρ ∧ SLe (cellsOf os so xo ++ (cellsOf oa sa xa ++ ρ)) (cellsOf oa sa xa ++ (cellsOf os so xo ++ ρ)) := by
  cases oa with
  | none => exact ⟨hs, ⟨nofun, ha.zero⟩, SLe.refl _⟩
  | some a =>
    cases os with
    | none => exact ⟨⟨nofun, hs.zero⟩, ha, SLe.refl _⟩
    | some c =>
      have h1 := ha.fresh a rfl
      change sget a ((c, AObj.arr so xo) :: ρ) = none at h1
      rw [sget_cons] at h1
      have hac : a ≠ c := fun e => by rw [if_pos e] at h1; cases h1
      rw [if_neg hac] at h1
      refine ⟨⟨fun b hb => ?_, nofun⟩, ⟨fun b hb => by cases hb; exact h1, nofun⟩, fun b o hb => ?_⟩
      · cases hb
        show sget c ((a, AObj.arr sa xa) :: ρ) = none
        rw [sget_cons, if_neg hac.symm]; exact hs.fresh c rfl
      · change sget b ((c, AObj.arr so xo) :: (a, AObj.arr sa xa) :: ρ) = some o at hb
        show sget b ((a, AObj.arr sa xa) :: (c, AObj.arr so xo) :: ρ) = some o
        rw [sget_cons, sget_cons] at hb ⊢
        by_cases h2 : b = a
        · have h3 : b ≠ c := fun e => hac (h2.symm.trans e)
          rw [if_neg h3, if_pos h2] at hb
          rw [if_pos h2]; exact hb
        · rw [if_neg h2] at hb ⊢
          exact hb
/-- A store in which nothing but other rows is told. -/
def PubOK (c : Nat) (σ : Store) : Prop := ∀ sz xs, spub c sz xs σ = σ
theorem PubOK.nil (c : Nat) : PubOK c [] := fun _ _ => rfl
theorem PubOK.cons {c k : Nat} {o : AObj} {σ : Store} (hk : c ≠ k) (ho : ∀ sz xs, o.pub c sz xs = o) (h : PubOK c σ) : PubOK c ((k, o) :: σ) := fun sz xs => by
  simp only [spub, if_neg hk, ho, h sz xs]
theorem PubOK.cells {c sz : Nat} {o : Option Nat} {ys : List D} {σ : Store} (hk : o ≠ some c) (ho : ∀ y ∈ ys, ∀ sz xs, D.pub c sz xs y = y) (h : PubOK c σ) : PubOK c (cellsOf o sz ys ++ σ) := by
  cases o with
  | none => exact h
  | some k => exact .cons (fun e => hk (by rw [e])) (fun s xs => by simp only [AObj.pub, AObj.arr.injEq, true_and]; exact (List.map_congr_left (g := id) fun y hy => ho y hy s xs).trans (List.map_id ys)) h
/-- A row of one's own that a slot holds, from here on only read. -/
theorem Goes.pubSlot (k : Nat) {o : Option Nat} {sz : Nat} {xs : List D} {ρ : Store} (hk : eget k env = .own o sz xs.length) (hg : GrD o sz xs ρ) (hρ : ∀ c, sget c ρ = none → PubOK c ρ) (he : ∀ c, ∀ p ∈ env, p.1 ≠ k → D.pub c sz xs p.2 = p.2)
    (h : Goes C todo (eput k (.slc xs) env) ρ) : Goes C todo env (cellsOf o sz xs ++ ρ) := by
  cases o with
  | none =>
    have hx := hg.zero rfl
    subst hx
    refine Goes.env_le h fun j => ?_
    rw [eget_eput]
    split
    · rename_i hj; rw [hj, hk]; exact DLe.own_slc _ _
    · exact DLe.refl _
  | some c =>
    refine Goes.publish c (sget_self c _ _) ?_
    have e1 : spub c sz xs ((c, AObj.arr sz xs) :: ρ) = ρ := by
      simp only [spub, if_true]; exact hρ c (hg.fresh c rfl) sz xs
    change Goes C todo (epub c sz xs env) (spub c sz xs ((c, AObj.arr sz xs) :: ρ))
    rw [e1]
    refine Goes.env_le h fun j => ?_
    rw [eget_epub, eget_eput]
    split
    · rename_i hj
      rw [hj, hk]
      show DLe (if c = c ∧ sz = sz ∧ xs.length ≤ xs.length then D.slc (xs.take xs.length) else _) _
      rw [if_pos ⟨rfl, rfl, Nat.le_refl _⟩, List.take_length]
      exact DLe.refl _
    · rename_i hj
      have : ∀ env : Env, (∀ p ∈ env, p.1 ≠ k → D.pub c sz xs p.2 = p.2) → D.pub c sz xs (eget j env) = eget j env := by
        intro env
        induction env with
        | nil => intro _; rfl
        | cons p r ih =>
          obtain ⟨i, d⟩ := p
          intro hp
          show D.pub c sz xs (if j = i then d else eget j r) = if j = i then d else eget j r
          by_cases hji : j = i
          · rw [if_pos hji]; exact hp (i, d) (by simp) (fun e => hj (hji.trans e))
          · rw [if_neg hji]; exact ih fun p hp' => hp p (by simp [hp'])
      rw [this env (he c)]
      exact DLe.refl _
end Go.Ab
set_option linter.unusedSimpArgs false
set_option linter.unusedVariables false
set_option linter.constructorNameAsVariable false
namespace Go.Ab.S16
open Go Go.Proofs
/-- An edge's outputs told to the graph: none has another maker. -/
def outsGo (mks : List (ByteArray × Nat)) (i : Nat) (outs : List ByteArray) : Option (List (ByteArray × Nat)) :=
  outs.foldl (fun o f => o.bind fun m => if (lookL m f).isSome then none else some (m ++ [(f, i)])) (some mks)
theorem outsGo_succ (mks : List (ByteArray × Nat)) (i : Nat) (outs : List ByteArray) (j : Nat) (h : j < outs.length) : outsGo mks i (outs.take (j + 1)) = (outsGo mks i (outs.take j)).bind fun m => if (lookL m outs[j]).isSome then none else some (m ++ [(outs[j], i)]) := by
  unfold outsGo
  rw [List.take_succ_eq_append_getElem h, List.foldl_append]
  rfl
theorem foldl_none {α β : Type} (f : β → α → Option β) (l : List α) : l.foldl (fun o x => o.bind fun m => f m x) none = none := by
  induction l with
  | nil => rfl
  | cons x l ih => exact ih
theorem outsGo_none {mks : List (ByteArray × Nat)} {i : Nat} {outs : List ByteArray} {j : Nat} (h : outsGo mks i (outs.take j) = none) : outsGo mks i outs = none := by
  conv => lhs; rw [← List.take_append_drop j outs]
  unfold outsGo at *
  rw [List.foldl_append, h]
  exact foldl_none (fun m f => if (lookL m f).isSome then none else some (m ++ [(f, i)])) _
def allTo (edges : List XEdge) (n : Nat) : Option (List (ByteArray × Nat)) :=
  (List.range n).foldl (fun o i => o.bind fun m => outsGo m i (edges.getD i ⟨[], [], [], [], ⟨#[]⟩, ⟨#[]⟩⟩).outs) (some [])
theorem allTo_succ (edges : List XEdge) (n : Nat) (h : n < edges.length) : allTo edges (n + 1) = (allTo edges n).bind fun m => outsGo m n edges[n].outs := by
  unfold allTo
  rw [List.range_succ, List.foldl_append]
  simp only [List.foldl_cons, List.foldl_nil]
  rw [getD_lt edges n _ h]
theorem allTo_none {edges : List XEdge} {n : Nat} (h : allTo edges n = none) : ∀ k, n ≤ k → allTo edges k = none
  | 0, hk => by obtain rfl : n = 0 := by omega
                exact h
  | k + 1, hk => by
    by_cases he : n = k + 1
    · rw [← he]; exact h
    · have := allTo_none h k (by omega)
      unfold allTo at *
      rw [List.range_succ, List.foldl_append, this]
      rfl
/-- The graph of a manifest: or 11: two edges make one file; 12: a circle. -/
def newG (m : XMan) : Nat ⊕ XGr :=
  match allTo m.edges m.edges.length with
  | none => .inl 11
  | some mks =>
    let ah := m.edges.map fun e => madeL mks e.needs
    if (orderL ah (List.range m.edges.length)).length < m.edges.length then .inl 12 else .inr ⟨m, mks, ah⟩
def gS (b mb : Nat) (x0 x1 x3 : D) (mks : List (ByteArray × Nat)) (ρ : Store) : Store := (b, .arr 4 [.agg [x0, x1, .map mb, x3]]) :: (mb, .mp (mkE mks)) :: ρ
section
variable {b mb : Nat} {x0 x1 x3 : D} {mks : List (ByteArray × Nat)} {ρ : Store}
theorem gS_b : sget b (gS b mb x0 x1 x3 mks ρ) = some (.arr 4 [.agg [x0, x1, .map mb, x3]]) := by simp [gS, sget]
theorem gS_m (h : mb ≠ b) : sget mb (gS b mb x0 x1 x3 mks ρ) = some (.mp (mkE mks)) := by simp [gS, sget, h]
theorem gS_sb (y0 y1 y3 : D) : sset b (.arr 4 [.agg [y0, y1, .map mb, y3]]) (gS b mb x0 x1 x3 mks ρ) = gS b mb y0 y1 y3 mks ρ := by simp [gS, sset]
theorem gS_sm (h : mb ≠ b) (mks' : List (ByteArray × Nat)) : sset mb (.mp (mkE mks')) (gS b mb x0 x1 x3 mks ρ) = gS b mb x0 x1 x3 mks' ρ := by simp [gS, sset, h]
end
theorem gS_none {b mb c : Nat} {x0 x1 x3 y0 y1 y3 : D} {mks mks' : List (ByteArray × Nat)} {ρ : Store} (h : sget c (gS b mb x0 x1 x3 mks ρ) = none) : sget c (gS b mb y0 y1 y3 mks' ρ) = none := by
  unfold gS at *
  obtain ⟨h1, h2⟩ := sget_none h
  obtain ⟨h3, h4⟩ := sget_none h2
  rw [sget_cons, if_neg h1, sget_cons, if_neg h3, h4]
theorem gS_grd {b mb : Nat} {x0 x1 x3 : D} (y0 y1 y3 : D) {mks : List (ByteArray × Nat)} (mks' : List (ByteArray × Nat)) {ρ : Store} {o : Option Nat} {sz : Nat} {xs : List D} (h : GrD o sz xs (gS b mb x0 x1 x3 mks ρ)) : GrD o sz xs (gS b mb y0 y1 y3 mks' ρ) :=
  ⟨fun c hc => gS_none (h.fresh c hc), h.zero⟩
theorem mset_mkE (l : List (ByteArray × Nat)) (f : ByteArray) (n : Nat) (h : lookL l f = none) : mset (.string f) (nD n) (mkE l) = mkE (l ++ [(f, n)]) := by
  induction l with
  | nil => rfl
  | cons p r ih =>
    obtain ⟨k, m⟩ := p
    unfold lookL at h ih
    rw [List.find?_cons] at h
    cases hk : (f == k) with
    | true => simp [hk] at h
    | false =>
      simp only [hk] at h
      show (if keyEq (.string f) (.string k) = true then _ else (Value.string k, nD m) :: mset (.string f) (nD n) (mkE r)) = _
      rw [show keyEq (.string f) (.string k) = (f == k) from rfl, hk, if_neg (by simp), ih h]
      rfl
theorem mkE_pub (c sz : Nat) (xs : List D) (l : List (ByteArray × Nat)) : (AObj.mp (mkE l)).pub c sz xs = .mp (mkE l) := by
  simp only [AObj.pub, mkE, List.map_map]
  rfl
theorem gS_spub {b mb c sz : Nat} {xs : List D} {x0 x1 x3 y0 y1 y3 : D} {mks : List (ByteArray × Nat)} {ρ : Store} (hc : sget c (gS b mb x0 x1 x3 mks ρ) = none) (h0 : D.pub c sz xs x0 = y0) (h1 : D.pub c sz xs x1 = y1) (h3 : D.pub c sz xs x3 = y3) (hρ : PubOK c ρ) :
    spub c sz xs (gS b mb x0 x1 x3 mks ρ) = gS b mb y0 y1 y3 mks ρ := by
  unfold gS at *
  obtain ⟨n1, hc⟩ := sget_none hc
  obtain ⟨n2, hc⟩ := sget_none hc
  simp only [spub, if_neg n1, if_neg n2, mkE_pub, hρ sz xs]
  simp only [AObj.pub, List.map_cons, List.map_nil, D.pub, pubs, h0, h1, h3]
theorem Goes.pubRow {P : Program} {N : Slots} {C : Ctx P N} {todo : List Item} {env : Env} {b mb sz : Nat} {o : Option Nat} {es : List D} {x0 x1 x3 : D} (y0 y1 y3 : D) {mks : List (ByteArray × Nat)} {ρ : Store} (hg : GrD o sz es (gS b mb x0 x1 x3 mks ρ)) (hnone : o = none → DLe x0 y0 ∧ DLe x1 y1 ∧ DLe x3 y3)
    (hsome : ∀ c, o = some c → sget c (gS b mb x0 x1 x3 mks ρ) = none → D.pub c sz es x0 = y0 ∧ D.pub c sz es x1 = y1 ∧ D.pub c sz es x3 = y3) (hρ : ∀ c, sget c ρ = none → PubOK c ρ) (he : ∀ c, epub c sz es env = env)
    (h : Goes C todo env (gS b mb y0 y1 y3 mks ρ)) : Goes C todo env (cellsOf o sz es ++ gS b mb x0 x1 x3 mks ρ) := by
  cases o with
  | none =>
    obtain ⟨h0, h1, h3⟩ := hnone rfl
    show Goes C todo env (gS b mb x0 x1 x3 mks ρ)
    unfold gS at *
    refine Goes.row_le (ys := [.agg [y0, y1, .map mb, y3]]) (fun w S vs hr => ?_) (by intro y hy; simp only [List.mem_singleton] at hy; subst hy; rfl) h
    obtain ⟨v0, vs, rfl, r0, hr⟩ := RepL.cons_inv (show RepL w S (x0 :: [x1, .map mb, x3]) vs from hr)
    obtain ⟨v1, vs, rfl, r1, hr⟩ := hr.cons_inv
    obtain ⟨v2, vs, rfl, r2, hr⟩ := hr.cons_inv
    obtain ⟨v3, vs, rfl, r3, hr⟩ := hr.cons_inv
    exact .cons (h0 _ _ _ r0) (.cons (h1 _ _ _ r1) (.cons r2 (.cons (h3 _ _ _ r3) hr)))
  | some c =>
    have hc := hg.fresh c rfl
    obtain ⟨h0, h1, h3⟩ := hsome c rfl hc
    have hcρ : sget c ρ = none := by
      unfold gS at hc
      exact (sget_none (sget_none hc).2).2
    refine Goes.publish c (sget_self c _ _) ?_
    change Goes C todo (epub c sz es env) (spub c sz es ((c, AObj.arr sz es) :: gS b mb x0 x1 x3 mks ρ))
    rw [he c]
    have e1 : spub c sz es ((c, AObj.arr sz es) :: gS b mb x0 x1 x3 mks ρ) = gS b mb y0 y1 y3 mks ρ := by
      rw [← gS_spub hc h0 h1 h3 (hρ c hcρ)]
      simp only [spub, if_true]
    rw [e1]; exact h
theorem pub_own (c sz : Nat) (xs : List D) : D.pub c sz xs (.own (some c) sz xs.length) = .slc xs := by
  show (if c = c ∧ sz = sz ∧ xs.length ≤ xs.length then D.slc (xs.take xs.length) else _) = _
  rw [if_pos ⟨rfl, rfl, Nat.le_refl _⟩, List.take_length]
theorem pub_other {c sz n : Nat} {xs : List D} {o : Option Nat} {s : Nat} (h : o ≠ some c) : D.pub c sz xs (.own o s n) = .own o s n := by
  cases o with
  | none => rfl
  | some k =>
    show (if k = c ∧ s = sz ∧ n ≤ xs.length then _ else D.own (some k) s n) = _
    rw [if_neg fun e => h (by rw [e.1])]
/-- graph.made, of a graph that is being made: what is handed back is only read. -/
theorem made_ptr_calls (mks : List (ByteArray × Nat)) (b mb : Nat) (x0 x1 x3 : D) (fs : List ByteArray) (σ : Store) (hm : sget mb σ = some (.mp (mkE mks))) (hb : sget b σ = some (.arr 4 [.agg [x0, x1, .map mb, x3]])) (hl : fs.length < 2 ^ 30) (hp : ∀ c, sget c σ = none → PubOK c σ) :
    ACalls Tryz.prog 54 [.ptr b 4 0 0, .slc (fs.map sD)] σ (fun e σ' => e = .ret (.slc ((madeL mks fs).map nD)) ∧ σ' = σ) :=
  ACalls.pubOwnIn (fun c hc => hp c hc _ _) (made_ptr mks b mb x0 x1 x3 fs σ hm hb hl)
theorem XEdge.d_eq (e : XEdge) : e.d = .agg [.slc (e.outs.map sD), .slc (e.ins.map sD), .slc (e.impl.map sD), .slc (e.order.map sD), .v (.string e.cmd), .v (.string e.dep)] := rfl
def slcN (l : List Nat) : D := .slc (l.map nD)
def rowsL (m : XMan) (mks : List (ByteArray × Nat)) (k : Nat) : List D := (m.edges.take k).map fun e => slcN (madeL mks e.needs)
theorem SLe.cons2 {A B : Store} (k : Nat) (o : AObj) (h : SLe A B) : SLe ((k, o) :: A) ((k, o) :: B) := fun b x hb => by
  rw [sget_cons] at hb ⊢
  split at hb
  · rename_i hk; rw [if_pos hk]; exact hb
  · rename_i hk; rw [if_neg hk]; exact h b x hb
theorem SLe.none {A B : Store} (h : SLe A B) {b : Nat} (hb : sget b B = none) : sget b A = none := by
  cases ha : sget b A with
  | none => rfl
  | some o => rw [h b o ha] at hb; cases hb
theorem gS_pubOK {b mb c : Nat} {x0 x1 x3 : D} {mks : List (ByteArray × Nat)} {ρ : Store} (hc : sget c (gS b mb x0 x1 x3 mks ρ) = none) (h0 : ∀ sz xs, D.pub c sz xs x0 = x0) (h1 : ∀ sz xs, D.pub c sz xs x1 = x1) (h3 : ∀ sz xs, D.pub c sz xs x3 = x3) (hρ : PubOK c ρ) : PubOK c (gS b mb x0 x1 x3 mks ρ) :=
  fun sz xs => gS_spub hc (h0 sz xs) (h1 sz xs) (h3 sz xs) hρ
theorem rowsL_pub (m : XMan) (mks : List (ByteArray × Nat)) (k : Nat) (c : Nat) : ∀ y ∈ rowsL m mks k, ∀ sz xs, D.pub c sz xs y = y := fun y hy sz xs => by
  obtain ⟨e, _, rfl⟩ := List.mem_map.1 hy
  rfl
theorem rowsL_succ (m : XMan) (mks : List (ByteArray × Nat)) (k : Nat) (h : k < m.edges.length) : rowsL m mks (k + 1) = rowsL m mks k ++ [.slc ((madeL mks m.edges[k].needs).map nD)] := by
  unfold rowsL
  rw [List.take_succ_eq_append_getElem h, List.map_append]
  rfl
theorem rowsL_len (m : XMan) (mks : List (ByteArray × Nat)) (k : Nat) (h : k ≤ m.edges.length) : (rowsL m mks k).length = k := by
  unfold rowsL; simp; omega
theorem nD_pub (l : List Nat) (c : Nat) : ∀ y ∈ l.map nD, ∀ sz xs, D.pub c sz xs y = y := fun y hy sz xs => by
  obtain ⟨e, _, rfl⟩ := List.mem_map.1 hy
  rfl
theorem new_own (m : XMan) (hl : m.edges.length < 2 ^ 20) (hs : ∀ e ∈ m.edges, e.small) (hd : m.defs.length < 2 ^ 20) :
    ACalls Tryz.prog 20 [m.d] [] (fun e σ' => match newG m with
      | .inl c => e = .ret (.tup [.v (.pointer none), .v (.int .i64 (c : Int))])
      | .inr g => ∃ mb, e = .ret (.tup [g.d mb, .v (.int .i64 0)]) ∧ sget mb σ' = some (.mp (mkE g.mks))) := by
  have hll : (m.edges.map XEdge.d).length = m.edges.length := List.length_map ..
  unfold XMan.d
  refine ACalls.of_body Tryz.func20 rfl Tryz.ntmps20 (by simp) fun C hC => ?_
  refine Goes.seq ?_
  refine Goes.region [0] fun K hK => ?_; simp (maxSteps := 4000000) only [go_sem, ↓reduceIte, reduceCtorEq, zqa, zqb, zqc, zqd, zqe, zqf, zqg, zqh, zqi, zqj, zqk, zql, zqm]
  intro bx
  refine hK _ _ ?_; clear hK K
  refine Goes.seq ?_
  refine Goes.region [1] fun K hK => ?_; simp (maxSteps := 4000000) only [go_sem, ↓reduceIte, reduceCtorEq, zqa, zqb, zqc, zqd, zqe, zqf, zqg, zqh, zqi, zqj, zqk, zql, zqm]
  intro mb hmb b hb
  refine hK _ _ ?_; clear hK K
  obtain ⟨hbm, hb2⟩ := sget_none hb
  obtain ⟨hbx, -⟩ := sget_none hb2
  obtain ⟨hmx, -⟩ := sget_none hmb
  generalize hρ : [(bx, AObj.arr 2 [D.agg [.slc (m.edges.map XEdge.d), .slc (m.defs.map sD)]])] = ρ at hmb hb2 ⊢
  change Goes C _ _ (gS b mb (.v (.slice none 0 0)) (.v (.slice none 0 0)) (.v (.slice none 0 0)) [] ρ)
  have hgx : ∀ x0 x1 x3 mks, sget bx (gS b mb x0 x1 x3 mks ρ) = some (.arr 2 [D.agg [.slc (m.edges.map XEdge.d), .slc (m.defs.map sD)]]) := fun x0 x1 x3 mks => by
    unfold gS
    rw [sget_cons, if_neg (Ne.symm hbx), sget_cons, if_neg (Ne.symm hmx), ← hρ, sget_self]
  refine Goes.seq ?_
  refine Goes.region [1, 4] fun K hK => ?_; simp (maxSteps := 4000000) only [go_sem, ↓reduceIte, reduceCtorEq, zqa, zqb, zqc, zqd, zqe, zqf, zqg, zqh, zqi, zqj, zqk, zql, zqm, hgx, gS_b, gS_sb]
  refine ⟨_, Tryz.call52, (clone_str (m.defs.map sD) _ (fun x hx => plain_sD m.defs x hx) (by rw [List.length_map]; omega)).mono ?_⟩
  rintro e σ1 ⟨rfl, rfl⟩
  simp only [go_sem, ↓reduceIte, reduceCtorEq, zqa, zqb, zqc, zqd, zqe, zqf, zqg, zqh, zqi, zqj, zqk, zql, zqm, hgx, gS_b, gS_sb]
  refine hK _ _ ?_; clear hK K
  refine Goes.seq ?_
  refine Goes.seq ?_
  refine Goes.region [1, 4] fun K hK => ?_; simp (maxSteps := 4000000) only [go_sem, ↓reduceIte, reduceCtorEq, zqa, zqb, zqc, zqd, zqe, zqf, zqg, zqh, zqi, zqj, zqk, zql, zqm, hgx, hll]
  refine hK _ _ ?_; clear hK K
  refine Goes.block ?_
  unfold gS
  refine Goes.row_le (ys := [.agg [.own none 6 0, .slc (m.defs.map sD), .map mb, .v (.slice none 0 0)]]) (fun w S vs h => by
    obtain ⟨v, vs, rfl, h1, h2⟩ := RepL.cons_inv (show RepL w S (.v (.slice none 0 0) :: [.slc (m.defs.map sD), .map mb, .v (.slice none 0 0)]) vs from h)
    exact .cons (DLe.nil_own 6 w S v h1) h2) (by simp [D.cells]) ?_
  change Goes C _ _ (gS b mb (.own none 6 0) (.slc (m.defs.map sD)) (.v (.slice none 0 0)) [] ρ)
  refine Goes.rebase [4, 25, 26, 27] ?_
  simp only [go_sem, ↓reduceIte, reduceCtorEq, zqa, zqb, zqc, zqd, zqe, zqf, zqg, zqh, zqi, zqj, zqk, zql, zqm]
  refine Goes.while (fun (i : Nat) env' σ'' => ∃ oe : Option Nat, ∃ mks : List (ByteArray × Nat), (i ≤ m.edges.length ∧ allTo m.edges i = some mks ∧ GrD oe 6 ((m.edges.take i).map XEdge.d) (gS b mb (.own oe 6 i) (.slc (m.defs.map sD)) (.v (.slice none 0 0)) mks ρ)) ∧ env' = [(4, .ptr b 4 0 0), (25, .slc (m.edges.map XEdge.d)), (26, .v (.int .i64 (m.edges.length : Int))), (27, .v (.int .i64 (i : Int)))] ∧ σ'' = cellsOf oe 6 ((m.edges.take i).map XEdge.d) ++ gS b mb (.own oe 6 i) (.slc (m.defs.map sD)) (.v (.slice none 0 0)) mks ρ) (fun (i : Nat) => m.edges.length - i) 0 ⟨none, [], ⟨Nat.zero_le _, rfl, GrD.nil _ _⟩, rfl, rfl⟩ ?_
  rintro i env' σ'' ⟨oe, mks, ⟨hi, hto, hgr⟩, rfl, rfl⟩ ih
  have ih1 := ih
  refine Goes.seq ?_
  refine Goes.region [4, 25, 26, 27] fun K hK => ?_; simp (maxSteps := 4000000) only [go_sem, ↓reduceIte, reduceCtorEq, zqa, zqb, zqc, zqd, zqe, zqf, zqg, zqh, zqi, zqj, zqk, zql, zqm]
  refine hK _ _ ?_; clear hK K
  refine Goes.seq ?_
  refine Goes.cond rfl (fun h28 => ?_) (fun h28 => ?_)
  · have hlt : i < m.edges.length := by simpa using h28
    have hg := getD_map_lt XEdge.d m.edges i hlt
    have hi0 : (0 : Int) ≤ (i : Int) := by omega
    have hi1 : (i : Int) < ((m.edges.map XEdge.d).length : Int) := by omega
    rw [XEdge.d] at hg
    have hsm := hs _ (List.getElem_mem hlt)
    refine Goes.skip ?_
    refine Goes.seq ?_
    refine Goes.block ?_
    refine Goes.seq ?_
    refine Goes.region [4, 25, 26, 27] fun K hK => ?_; simp (maxSteps := 4000000) only [go_sem, ↓reduceIte, reduceCtorEq, zqa, zqb, zqc, zqd, zqe, zqf, zqg, zqh, zqi, zqj, zqk, zql, zqm, hg, hi0, hi1]
    intro be hbe
    refine hK _ _ ?_; clear hK K
    obtain ⟨hgrp, hle⟩ := hgr.push (x := .arr 6 [XEdge.d m.edges[i]]) hbe
    refine Goes.le (ELe.refl _) hle ?_
    have hbe2 := (hgr.none_of hbe).1
    have hbne : b ≠ be := fun e => by rw [← e, gS_b] at hbe2; cases hbe2
    have hgb := hgrp.keep (b := b) (by rw [sget_cons, if_neg hbne]; exact gS_b)
    have hge := (hgrp.keep (sget_self be (.arr 6 [XEdge.d m.edges[i]]) _)).trans (congrArg (fun x => some (AObj.arr 6 [x])) (XEdge.d_eq m.edges[i]))
    have ho := hgrp.oget
    have hd := hgrp.sdel
    have htl : ((m.edges.take i).map XEdge.d).length = i := by simp; omega
    have htk : List.take i ((m.edges.take i).map XEdge.d) = (m.edges.take i).map XEdge.d := List.take_of_length_le (by omega)
    have hec : (XEdge.d m.edges[i]).cells.length = 6 := rfl
    have hep : (XEdge.d m.edges[i]).plain = true := rfl
    refine Goes.seq ?_
    refine Goes.draw [4, 5, 6, 25, 26, 27] [40] [b, be] [13] [(0, true), (1, true), (2, true), (3, true), (4, true), (5, true), (6, true), (7, false), (8, true), (9, false), (10, true), (11, true), (12, true), (13, false)] (by kernel_rfl) (by decide) (by kernel_rfl) fun K hK => ?_; simp (maxSteps := 4000000) only [go_sem, ↓reduceIte, reduceCtorEq, zqa, zqb, zqc, zqd, zqe, zqf, zqg, zqh, zqi, zqj, zqk, zql, zqm, hgb, hge]
    refine ⟨_, Tryz.call53, (copied_calls m.edges[i] _ hsm).mono ?_⟩
    rintro e σ1 ⟨rfl, rfl⟩
    simp only [go_sem, ↓reduceIte, reduceCtorEq, zqa, zqb, zqc, zqd, zqe, zqf, zqg, zqh, zqi, zqj, zqk, zql, zqm, hgb, hge, hec, hep, ho, hd, htk]
    refine ⟨by decide, ⟨by omega, fun y hy => by subst hy; exact ⟨rfl, rfl⟩, by omega, by omega⟩, fun ob hz hf => ?_⟩
    have hgr2 := hgrp.app hz hf
    have hgb2 := hgr2.keep (b := b) (by rw [sget_cons, if_neg hbne]; exact gS_b)
    have hge2 := hgr2.keep (sget_self be (.arr 6 [XEdge.d m.edges[i]]) _)
    refine ⟨?_, ?_⟩
    · rintro b1 (rfl | rfl)
      · rw [hgb2, hgb]
      · rw [hge2, hge]; rfl
    have hss : sset b (.arr 4 [.agg [.own ob 6 ((m.edges.take i).map XEdge.d ++ [m.edges[i].d]).length, .slc (m.defs.map sD), .map mb, .v (.slice none 0 0)]]) (cellsOf ob 6 ((m.edges.take i).map XEdge.d ++ [m.edges[i].d]) ++ (be, AObj.arr 6 [m.edges[i].d]) :: gS b mb (.own oe 6 i) (.slc (m.defs.map sD)) (.v (.slice none 0 0)) mks ρ)
        = cellsOf ob 6 ((m.edges.take i).map XEdge.d ++ [m.edges[i].d]) ++ (be, AObj.arr 6 [m.edges[i].d]) :: gS b mb (.own ob 6 (i + 1)) (.slc (m.defs.map sD)) (.v (.slice none 0 0)) mks ρ := by
      have hbs : (sget b ((be, AObj.arr 6 [m.edges[i].d]) :: gS b mb (.own oe 6 i) (.slc (m.defs.map sD)) (.v (.slice none 0 0)) mks ρ)).isSome = true := by rw [sget_cons, if_neg hbne, gS_b]; rfl
      rw [hgr2.sset hbs, sset_ne hbne, gS_sb, List.length_append, htl]
      rfl
    simp only [go_sem, ↓reduceIte, reduceCtorEq, zqa, zqb, zqc, zqd, zqe, zqf, zqg, zqh, zqi, zqj, zqk, zql, zqm, hgb2, hss]
    refine hK _ _ ?_; clear hK K
    have e1 : (m.edges.take i).map XEdge.d ++ [m.edges[i].d] = (m.edges.take (i + 1)).map XEdge.d := by rw [List.take_succ_eq_append_getElem hlt, List.map_append]; rfl
    have hgr3 := hgr2.ssetR b (.arr 4 [.agg [.own ob 6 (i + 1), .slc (m.defs.map sD), .map mb, .v (.slice none 0 0)]])
    rw [sset_ne hbne, gS_sb, e1] at hgr3
    rw [e1]
    have hge3 := (hgr3.keep (sget_self be (.arr 6 [XEdge.d m.edges[i]]) _)).trans (congrArg (fun x => some (AObj.arr 6 [x])) (XEdge.d_eq m.edges[i]))
    have hdr := hgr3.drop (gS_none hbe2)
    have hou := hsm.outs
    have hol : (m.edges[i].outs.map sD).length = m.edges[i].outs.length := List.length_map ..
    refine Goes.seq ?_
    refine Goes.region [4, 5, 6, 25, 26, 27] fun K hK => ?_; simp (maxSteps := 4000000) only [go_sem, ↓reduceIte, reduceCtorEq, zqa, zqb, zqc, zqd, zqe, zqf, zqg, zqh, zqi, zqj, zqk, zql, zqm, hge3, hol]
    refine hK _ _ ?_; clear hK K
    refine Goes.block ?_
    refine Goes.le (ELe.refl _) hdr.2 ?_
    refine Goes.rebase [4, 5, 25, 26, 27, 46, 47, 48] ?_
    simp only [go_sem, ↓reduceIte, reduceCtorEq, zqa, zqb, zqc, zqd, zqe, zqf, zqg, zqh, zqi, zqj, zqk, zql, zqm]
    refine Goes.while (fun (j : Nat) env' σ'' => ∃ mks2 : List (ByteArray × Nat), (j ≤ m.edges[i].outs.length ∧ outsGo mks i (m.edges[i].outs.take j) = some mks2) ∧ env' = [(4, .ptr b 4 0 0), (5, .v (.int .i64 (i : Int))), (25, .slc (m.edges.map XEdge.d)), (26, .v (.int .i64 (m.edges.length : Int))), (27, .v (.int .i64 (i : Int))), (46, .slc (m.edges[i].outs.map sD)), (47, .v (.int .i64 (m.edges[i].outs.length : Int))), (48, .v (.int .i64 (j : Int)))] ∧ σ'' = cellsOf ob 6 ((m.edges.take (i + 1)).map XEdge.d) ++ gS b mb (.own ob 6 (i + 1)) (.slc (m.defs.map sD)) (.v (.slice none 0 0)) mks2 ρ) (fun (j : Nat) => m.edges[i].outs.length - j) 0 ⟨mks, ⟨Nat.zero_le _, rfl⟩, rfl, rfl⟩ ?_
    rintro j env' σ'' ⟨mks2, ⟨hj, hout⟩, rfl, rfl⟩ ih
    have ih2 := ih
    have hg4 := gS_grd (.own ob 6 (i + 1)) (.slc (m.defs.map sD)) (.v (.slice none 0 0)) mks2 hdr.1
    have hgb4 := hg4.keep (b := b) gS_b
    have hgm4 := hg4.keep (gS_m hbm.symm)
    refine Goes.seq ?_
    refine Goes.region [4, 5, 25, 26, 27, 46, 47, 48] fun K hK => ?_; simp (maxSteps := 4000000) only [go_sem, ↓reduceIte, reduceCtorEq, zqa, zqb, zqc, zqd, zqe, zqf, zqg, zqh, zqi, zqj, zqk, zql, zqm]
    refine hK _ _ ?_; clear hK K
    refine Goes.seq ?_
    refine Goes.cond rfl (fun h49 => ?_) (fun h49 => ?_)
    · have hltj : j < m.edges[i].outs.length := by simpa using h49
      have hgj := getD_map_lt sD m.edges[i].outs j hltj
      rw [sD] at hgj
      have hj0 : (0 : Int) ≤ (j : Int) := by omega
      have hj1 : (j : Int) < ((m.edges[i].outs.map sD).length : Int) := by omega
      have hsu := outsGo_succ mks i m.edges[i].outs j hltj
      rw [hout, Option.bind_some] at hsu
      have hfd := mfind_mkE mks2 m.edges[i].outs[j]
      have hlk := mkE_like mks2 m.edges[i].outs[j]
      have hf1 := getD_nD (lookL mks2 m.edges[i].outs[j])
      have hf2 := some_nD (lookL mks2 m.edges[i].outs[j])
      refine Goes.skip ?_
      refine Goes.seq ?_
      refine Goes.block ?_
      refine Goes.seq ?_
      refine Goes.region [4, 5, 25, 26, 27, 46, 47, 48] fun K hK => ?_; simp (maxSteps := 4000000) only [go_sem, ↓reduceIte, reduceCtorEq, zqa, zqb, zqc, zqd, zqe, zqf, zqg, zqh, zqi, zqj, zqk, zql, zqm, hgj, hj0, hj1]
      refine hK _ _ ?_; clear hK K
      refine Goes.seq ?_
      refine Goes.seq ?_
      refine Goes.region [4, 5, 8, 25, 26, 27, 46, 47, 48] fun K hK => ?_; simp (maxSteps := 4000000) only [go_sem, ↓reduceIte, reduceCtorEq, zqa, zqb, zqc, zqd, zqe, zqf, zqg, zqh, zqi, zqj, zqk, zql, zqm, hgb4, hgm4, hfd, hf1, hf2]
      refine ⟨⟨rfl, hlk⟩, ?_⟩
      refine hK _ _ ?_; clear hK K
      refine Goes.seq ?_
      refine Goes.region [4, 5, 8, 10, 25, 26, 27, 46, 47, 48] fun K hK => ?_; simp (maxSteps := 4000000) only [go_sem, ↓reduceIte, reduceCtorEq, zqa, zqb, zqc, zqd, zqe, zqf, zqg, zqh, zqi, zqj, zqk, zql, zqm]
      refine hK _ _ ?_; clear hK K
      refine Goes.cond rfl (fun h61 => ?_) (fun h61 => ?_)
      · have hnone : outsGo mks i (m.edges[i].outs.take (j + 1)) = none := by rw [hsu, if_pos h61]
        have hn2 := outsGo_none hnone
        have hn3 : allTo m.edges (i + 1) = none := by rw [allTo_succ m.edges i hlt, hto, Option.bind_some, hn2]
        have hn4 := allTo_none hn3 m.edges.length (by omega)
        have hng : newG m = .inl 11 := by unfold newG; rw [hn4]
        refine Goes.seq ?_
        refine Goes.region [] fun K hK => ?_; simp (maxSteps := 4000000) only [go_sem, ↓reduceIte, reduceCtorEq, zqa, zqb, zqc, zqd, zqe, zqf, zqg, zqh, zqi, zqj, zqk, zql, zqm]
        refine hK _ _ ?_; clear hK K
        refine Goes.ret hC Tryz.func20 (by simp [go_sem]) ?_
        simp only [go_sem, ↓reduceIte, reduceCtorEq, zqa, zqb, zqc, zqd, zqe, zqf, zqg, zqh, zqi, zqj, zqk, zql, zqm]
        rw [hng]
        rfl
      · have hnl : (lookL mks2 m.edges[i].outs[j]).isSome = false := by simpa using h61
        rw [hnl, if_neg (by simp)] at hsu
        have hms := mset_mkE mks2 m.edges[i].outs[j] i (by simpa using hnl)
        have hss4 : sset mb (.mp (mkE (mks2 ++ [(m.edges[i].outs[j], i)]))) (cellsOf ob 6 ((m.edges.take (i + 1)).map XEdge.d) ++ gS b mb (.own ob 6 (i + 1)) (.slc (m.defs.map sD)) (.v (.slice none 0 0)) mks2 ρ)
            = cellsOf ob 6 ((m.edges.take (i + 1)).map XEdge.d) ++ gS b mb (.own ob 6 (i + 1)) (.slc (m.defs.map sD)) (.v (.slice none 0 0)) (mks2 ++ [(m.edges[i].outs[j], i)]) ρ := by
          rw [hg4.sset (by rw [gS_m hbm.symm]; rfl), gS_sm hbm.symm]
        rw [nD] at hms
        refine Goes.skip ?_
        refine Goes.region [4, 5, 8, 25, 26, 27, 46, 47, 48] fun K hK => ?_; simp (maxSteps := 4000000) only [go_sem, ↓reduceIte, reduceCtorEq, zqa, zqb, zqc, zqd, zqe, zqf, zqg, zqh, zqi, zqj, zqk, zql, zqm, hgb4, hgm4, hms, hss4]
        refine ⟨⟨rfl, hlk⟩, ?_⟩
        refine hK _ _ ?_; clear hK K
        refine Goes.inBlock ?_
        refine Goes.region [4, 5, 25, 26, 27, 46, 47, 48] fun K hK => ?_; simp (maxSteps := 4000000) only [go_sem, ↓reduceIte, reduceCtorEq, zqa, zqb, zqc, zqd, zqe, zqf, zqg, zqh, zqi, zqj, zqk, zql, zqm]
        refine hK _ _ ?_; clear hK K
        refine Goes.rebase [4, 5, 25, 26, 27, 46, 47, 48] ?_
        simp only [go_sem, ↓reduceIte, reduceCtorEq, zqa, zqb, zqc, zqd, zqe, zqf, zqg, zqh, zqi, zqj, zqk, zql, zqm]
        rw [wrap_succ j (by omega)]
        exact ih2 (j + 1) _ _ ⟨_, ⟨by omega, hsu⟩, rfl, rfl⟩ (by omega)
    · have hje : j = m.edges[i].outs.length := by simp at h49; omega
      subst hje
      rw [List.take_length] at hout
      refine Goes.exit rfl ?_
      refine Goes.inBlock ?_
      refine Goes.region [4, 25, 26, 27] fun K hK => ?_; simp (maxSteps := 4000000) only [go_sem, ↓reduceIte, reduceCtorEq, zqa, zqb, zqc, zqd, zqe, zqf, zqg, zqh, zqi, zqj, zqk, zql, zqm]
      refine hK _ _ ?_; clear hK K
      refine Goes.rebase [4, 25, 26, 27] ?_
      simp only [go_sem, ↓reduceIte, reduceCtorEq, zqa, zqb, zqc, zqd, zqe, zqf, zqg, zqh, zqi, zqj, zqk, zql, zqm]
      rw [wrap_succ i (by omega)]
      exact ih1 (i + 1) _ _ ⟨ob, mks2, ⟨by omega, by rw [allTo_succ m.edges i hlt, hto, Option.bind_some, hout], hg4⟩, rfl, rfl⟩ (by omega)
  · have hie : i = m.edges.length := by simp at h28; omega
    subst hie
    rw [List.take_length] at hgr ⊢
    have hρ2 : ∀ c, sget c ρ = none → PubOK c ρ := fun c hc => by
      rw [← hρ] at hc ⊢
      exact .cons (sget_none hc).1 (fun _ _ => rfl) (.nil c)
    have hml : (m.edges.map XEdge.d).length = m.edges.length := List.length_map ..
    refine Goes.pubRow (.slc (m.edges.map XEdge.d)) (.slc (m.defs.map sD)) (.v (.slice none 0 0)) (hgr) (fun h => ⟨?_, DLe.refl _, DLe.refl _⟩) (fun c h _ => ⟨?_, rfl, rfl⟩) hρ2 (fun c => rfl) ?_
    · rw [hgr.zero h, h]; exact DLe.own_slc _ _
    · subst h
      have := pub_own c 6 (m.edges.map XEdge.d)
      rw [hml] at this; exact this
    unfold gS
    refine Goes.row_le (ys := [.agg [.slc (m.edges.map XEdge.d), .slc (m.defs.map sD), .map mb, .own none 1 0]]) (fun w S vs h => by
      obtain ⟨v0, vs, rfl, r0, h⟩ := RepL.cons_inv (show RepL w S (.slc (m.edges.map XEdge.d) :: [.slc (m.defs.map sD), .map mb, .v (.slice none 0 0)]) vs from h)
      obtain ⟨v1, vs, rfl, r1, h⟩ := h.cons_inv
      obtain ⟨v2, vs, rfl, r2, h⟩ := h.cons_inv
      obtain ⟨v3, vs, rfl, r3, h⟩ := h.cons_inv
      exact .cons r0 (.cons r1 (.cons r2 (.cons (DLe.nil_own 1 w S v3 r3) h)))) (by simp [D.cells]) ?_
    change Goes C _ _ (gS b mb (.slc (m.edges.map XEdge.d)) (.slc (m.defs.map sD)) (.own none 1 0) mks ρ)
    refine Goes.exit rfl ?_
    refine Goes.seq ?_
    refine Goes.region [4] fun K hK => ?_; simp (maxSteps := 4000000) only [go_sem, ↓reduceIte, reduceCtorEq, zqa, zqb, zqc, zqd, zqe, zqf, zqg, zqh, zqi, zqj, zqk, zql, zqm]
    refine hK _ _ ?_; clear hK K
    refine Goes.seq ?_
    refine Goes.seq ?_
    refine Goes.region [4, 11] fun K hK => ?_; simp (maxSteps := 4000000) only [go_sem, ↓reduceIte, reduceCtorEq, zqa, zqb, zqc, zqd, zqe, zqf, zqg, zqh, zqi, zqj, zqk, zql, zqm, gS_b]
    refine hK _ _ ?_; clear hK K
    refine Goes.block ?_
    refine Goes.nilOwn 11 1 rfl ?_
    refine Goes.rebase [4, 11, 74, 75, 76] ?_
    simp only [go_sem, ↓reduceIte, reduceCtorEq, zqa, zqb, zqc, zqd, zqe, zqf, zqg, zqh, zqi, zqj, zqk, zql, zqm]
    refine Goes.while (fun (k : Nat) env' σ'' => ∃ oa : Option Nat, ∃ os : Option Nat, (k ≤ m.edges.length ∧ GrD oa 1 (rowsL m mks k) (gS b mb (.slc (m.edges.map XEdge.d)) (.slc (m.defs.map sD)) (.own oa 1 k) mks ρ) ∧ GrD os 1 ((List.range k).map nD) (cellsOf oa 1 (rowsL m mks k) ++ gS b mb (.slc (m.edges.map XEdge.d)) (.slc (m.defs.map sD)) (.own oa 1 k) mks ρ)) ∧ env' = [(4, .ptr b 4 0 0), (11, .own os 1 k), (74, .slc (m.edges.map XEdge.d)), (75, .v (.int .i64 (m.edges.length : Int))), (76, .v (.int .i64 (k : Int)))] ∧ σ'' = cellsOf os 1 ((List.range k).map nD) ++ (cellsOf oa 1 (rowsL m mks k) ++ gS b mb (.slc (m.edges.map XEdge.d)) (.slc (m.defs.map sD)) (.own oa 1 k) mks ρ)) (fun (k : Nat) => m.edges.length - k) 0 ⟨none, none, ⟨Nat.zero_le _, GrD.nil _ _, GrD.nil _ _⟩, by rw [hml]; rfl, rfl⟩ ?_
    rintro k env' σ'' ⟨oa, os, ⟨hk, hga, hgs⟩, rfl, rfl⟩ ih
    have ih3 := ih
    refine Goes.seq ?_
    refine Goes.region [4, 11, 74, 75, 76] fun K hK => ?_; simp (maxSteps := 4000000) only [go_sem, ↓reduceIte, reduceCtorEq, zqa, zqb, zqc, zqd, zqe, zqf, zqg, zqh, zqi, zqj, zqk, zql, zqm]
    refine hK _ _ ?_; clear hK K
    refine Goes.seq ?_
    refine Goes.cond rfl (fun h77 => ?_) (fun h77 => ?_)
    · have hltk : k < m.edges.length := by simpa using h77
      have hg := getD_map_lt XEdge.d m.edges k hltk
      have hi0 : (0 : Int) ≤ (k : Int) := by omega
      have hi1 : (k : Int) < ((m.edges.map XEdge.d).length : Int) := by omega
      rw [XEdge.d] at hg
      have hsm := hs _ (List.getElem_mem hltk)
      refine Goes.skip ?_
      refine Goes.seq ?_
      refine Goes.block ?_
      refine Goes.seq ?_
      refine Goes.region [4, 11, 74, 75, 76] fun K hK => ?_; simp (maxSteps := 4000000) only [go_sem, ↓reduceIte, reduceCtorEq, zqa, zqb, zqc, zqd, zqe, zqf, zqg, zqh, zqi, zqj, zqk, zql, zqm, hg, hi0, hi1]
      intro be hbe
      refine hK _ _ ?_; clear hK K
      obtain ⟨hga2, hgs2, hsw⟩ := GrD.swap hgs hga
      refine Goes.le (ELe.refl _) (SLe.cons2 be _ hsw) ?_
      have hbe1 := SLe.none hsw hbe
      obtain ⟨hgap, hle⟩ := hga2.push (x := .arr 6 [XEdge.d m.edges[k]]) hbe1
      refine Goes.le (ELe.refl _) hle ?_
      have hbe2 := (hga2.none_of hbe1).1
      have hbe3 := (hgs2.none_of hbe2).1
      have hbne : b ≠ be := fun e => by rw [← e, gS_b] at hbe3; cases hbe3
      have hmne : mb ≠ be := fun e => by rw [← e, gS_m hbm.symm] at hbe3; cases hbe3
      have hgb := hgap.keep (b := b) (by rw [sget_cons, if_neg hbne]; exact hgs2.keep gS_b)
      have hgm := hgap.keep (b := mb) (by rw [sget_cons, if_neg hmne]; exact hgs2.keep (gS_m hbm.symm))
      have hge := (hgap.keep (sget_self be (.arr 6 [XEdge.d m.edges[k]]) _)).trans (congrArg (fun x => some (AObj.arr 6 [x])) (XEdge.d_eq m.edges[k]))
      have ho := hgap.oget
      have hd := hgap.sdel
      have hrl := rowsL_len m mks k hk
      have htk : List.take k (rowsL m mks k) = rowsL m mks k := List.take_of_length_le (by omega)
      have hnl : m.edges[k].needs.length < 2 ^ 30 := by
        have h1 := hsm.ins
        have h2 := hsm.impl
        have h3 := hsm.order
        unfold XEdge.needs; simp only [List.length_append]; omega
      have hpub : ∀ c, sget c (cellsOf oa 1 (rowsL m mks k) ++ (be, AObj.arr 6 [XEdge.d m.edges[k]]) :: (cellsOf os 1 ((List.range k).map nD) ++ gS b mb (.slc (m.edges.map XEdge.d)) (.slc (m.defs.map sD)) (.own oa 1 k) mks ρ)) = none → PubOK c (cellsOf oa 1 (rowsL m mks k) ++ (be, AObj.arr 6 [XEdge.d m.edges[k]]) :: (cellsOf os 1 ((List.range k).map nD) ++ gS b mb (.slc (m.edges.map XEdge.d)) (.slc (m.defs.map sD)) (.own oa 1 k) mks ρ)) := fun c hc => by
        obtain ⟨h1, h2⟩ := hgap.none_of hc
        obtain ⟨h3, h4⟩ := sget_none h1
        obtain ⟨h5, h6⟩ := hgs2.none_of h4
        have h7 : sget c ρ = none := by unfold gS at h5; exact (sget_none (sget_none h5).2).2
        exact .cells h2 (rowsL_pub m mks k c) (.cons h3 (fun _ _ => rfl) (.cells h6 (nD_pub _ c) (gS_pubOK h5 (fun _ _ => rfl) (fun _ _ => rfl) (fun _ _ => pub_other h2) (hρ2 c h7))))
      refine Goes.seq ?_
      refine Goes.draw [4, 11, 12, 13, 74, 75, 76] [90] [b, be] [13] [(0, true), (1, true), (2, true), (3, true), (4, true), (5, true), (6, true), (7, false), (8, false), (9, true), (10, false), (11, true), (12, true), (13, false)] (by kernel_rfl) (by decide) (by kernel_rfl) fun K hK => ?_; simp (maxSteps := 4000000) only [go_sem, ↓reduceIte, reduceCtorEq, zqa, zqb, zqc, zqd, zqe, zqf, zqg, zqh, zqi, zqj, zqk, zql, zqm, hgb, hge]
      refine ⟨_, Tryz.call55, (needs_prog m.edges[k] _ hsm).mono ?_⟩
      rintro e σ1 ⟨rfl, rfl⟩
      simp only [go_sem, ↓reduceIte, reduceCtorEq, zqa, zqb, zqc, zqd, zqe, zqf, zqg, zqh, zqi, zqj, zqk, zql, zqm, hgb, hge]
      refine ⟨_, Tryz.call54, (made_ptr_calls mks b mb _ _ _ m.edges[k].needs _ hgm hgb hnl hpub).mono ?_⟩
      rintro e σ1 ⟨rfl, rfl⟩
      simp only [go_sem, ↓reduceIte, reduceCtorEq, zqa, zqb, zqc, zqd, zqe, zqf, zqg, zqh, zqi, zqj, zqk, zql, zqm, hgb, hge, ho, hd, htk]
      refine ⟨by decide, ⟨by omega, fun y hy => by subst hy; exact ⟨rfl, rfl⟩, by omega, by omega⟩, fun ob hz hf => ?_⟩
      rw [← rowsL_succ m mks k hltk] at hz ⊢
      have hgr2 : GrD ob 1 (rowsL m mks (k + 1)) _ := ⟨hf, hz⟩
      have hrl2 := rowsL_len m mks (k + 1) (by omega)
      have hgb2 := hgr2.keep (b := b) (by rw [sget_cons, if_neg hbne]; exact hgs2.keep gS_b)
      have hge2 := hgr2.keep (sget_self be (.arr 6 [XEdge.d m.edges[k]]) _)
      refine ⟨?_, ?_⟩
      · rintro b1 (rfl | rfl)
        · rw [hgb2, hgb]
        · rw [hge2, hge]; rfl
      have hbs0 : (sget b (gS b mb (.slc (m.edges.map XEdge.d)) (.slc (m.defs.map sD)) (.own oa 1 k) mks ρ)).isSome = true := by rw [gS_b]; rfl
      have hbs1 : (sget b (cellsOf os 1 ((List.range k).map nD) ++ gS b mb (.slc (m.edges.map XEdge.d)) (.slc (m.defs.map sD)) (.own oa 1 k) mks ρ)).isSome = true := by rw [hgs2.keep gS_b]; rfl
      have hbs2 : (sget b ((be, AObj.arr 6 [m.edges[k].d]) :: (cellsOf os 1 ((List.range k).map nD) ++ gS b mb (.slc (m.edges.map XEdge.d)) (.slc (m.defs.map sD)) (.own oa 1 k) mks ρ))).isSome = true := by rw [sget_cons, if_neg hbne]; exact hbs1
      have hss : sset b (.arr 4 [.agg [.slc (m.edges.map XEdge.d), .slc (m.defs.map sD), .map mb, .own ob 1 (rowsL m mks (k + 1)).length]]) (cellsOf ob 1 (rowsL m mks (k + 1)) ++ (be, AObj.arr 6 [m.edges[k].d]) :: (cellsOf os 1 ((List.range k).map nD) ++ gS b mb (.slc (m.edges.map XEdge.d)) (.slc (m.defs.map sD)) (.own oa 1 k) mks ρ))
          = cellsOf ob 1 (rowsL m mks (k + 1)) ++ (be, AObj.arr 6 [m.edges[k].d]) :: (cellsOf os 1 ((List.range k).map nD) ++ gS b mb (.slc (m.edges.map XEdge.d)) (.slc (m.defs.map sD)) (.own ob 1 (k + 1)) mks ρ) := by
        rw [hgr2.sset hbs2, sset_ne hbne, hgs2.sset hbs0, gS_sb, hrl2]
      have hgr3 := hgr2.ssetR b (.arr 4 [.agg [.slc (m.edges.map XEdge.d), .slc (m.defs.map sD), .map mb, .own ob 1 (k + 1)]])
      rw [sset_ne hbne, hgs2.sset hbs0, gS_sb] at hgr3
      have hgs3 := gS_grd (.slc (m.edges.map XEdge.d)) (.slc (m.defs.map sD)) (.own ob 1 (k + 1)) mks hgs2
      simp only [go_sem, ↓reduceIte, reduceCtorEq, zqa, zqb, zqc, zqd, zqe, zqf, zqg, zqh, zqi, zqj, zqk, zql, zqm, hgb2, hss]
      refine hK _ _ ?_; clear hK K
      have hdr := hgr3.drop (b := be) (by
        have h6 := (hgs2.none_of hbe2).2
        cases os with
        | none => exact gS_none hbe3
        | some c =>
          show sget be ((c, _) :: _) = none
          rw [sget_cons, if_neg (fun e => h6 (by rw [e]))]
          exact gS_none hbe3)
      refine Goes.le (ELe.refl _) hdr.2 ?_
      obtain ⟨hgs4, hga4, hsw4⟩ := GrD.swap hdr.1 hgs3
      refine Goes.le (ELe.refl _) hsw4 ?_
      have ho4 := hgs4.oget
      have hd4 := hgs4.sdel
      have hrk : ((List.range k).map nD).length = k := by simp
      have htk4 : List.take k ((List.range k).map nD) = (List.range k).map nD := List.take_of_length_le (by omega)
      refine Goes.regionM [4, 11, 12, 74, 75, 76] [96] fun K hK => ?_; simp (maxSteps := 4000000) only [go_sem, ↓reduceIte, reduceCtorEq, zqa, zqb, zqc, zqd, zqe, zqf, zqg, zqh, zqi, zqj, zqk, zql, zqm, ho4, hd4, htk4]
      refine ⟨by decide, ⟨by omega, fun y hy => by subst hy; exact ⟨rfl, rfl⟩, by omega, by omega⟩, fun ob2 hz hf => ?_⟩
      have hgs5 := hgs4.app hz hf
      have e2 : (List.range k).map nD ++ [D.v (.int .i64 (k : Int))] = (List.range (k + 1)).map nD := by rw [List.range_succ, List.map_append]; rfl
      rw [e2] at hgs5 ⊢
      refine hK _ _ ?_; clear hK K
      refine Goes.inBlock ?_
      refine Goes.region [4, 11, 74, 75, 76] fun K hK => ?_; simp (maxSteps := 4000000) only [go_sem, ↓reduceIte, reduceCtorEq, zqa, zqb, zqc, zqd, zqe, zqf, zqg, zqh, zqi, zqj, zqk, zql, zqm]
      refine hK _ _ ?_; clear hK K
      refine Goes.rebase [4, 11, 74, 75, 76] ?_
      simp only [go_sem, ↓reduceIte, reduceCtorEq, zqa, zqb, zqc, zqd, zqe, zqf, zqg, zqh, zqi, zqj, zqk, zql, zqm]
      rw [wrap_succ k (by omega)]
      refine ih3 (k + 1) _ _ ⟨ob, ob2, ⟨by omega, hga4, hgs5⟩, ?_, ?_⟩ (by omega)
      · simp
      · rw [List.range_succ]
    · have hke : k = m.edges.length := by simp at h77; omega
      subst hke
      refine Goes.pubSlot 11 (o := os) (sz := 1) (xs := (List.range m.edges.length).map nD) (by simp [eget]) hgs (fun c hc => ?_) (by simp [D.pub]) ?_
      · obtain ⟨h5, h6⟩ := hga.none_of hc
        have h7 : sget c ρ = none := by unfold gS at h5; exact (sget_none (sget_none h5).2).2
        exact .cells h6 (rowsL_pub m mks _ c) (gS_pubOK h5 (fun _ _ => rfl) (fun _ _ => rfl) (fun _ _ => pub_other h6) (hρ2 c h7))
      refine Goes.rebase [4, 11] ?_
      simp only [go_sem, ↓reduceIte, reduceCtorEq, zqa, zqb, zqc, zqd, zqe, zqf, zqg, zqh, zqi, zqj, zqk, zql, zqm]
      have hrl := rowsL_len m mks m.edges.length (Nat.le_refl _)
      refine Goes.pubRow (.slc (m.edges.map XEdge.d)) (.slc (m.defs.map sD)) (.slc (rowsL m mks m.edges.length)) hga (fun h => ⟨DLe.refl _, DLe.refl _, ?_⟩) (fun c h _ => ⟨rfl, rfl, ?_⟩) hρ2 (fun c => rfl) ?_
      · rw [hga.zero h, h]; exact DLe.own_slc _ _
      · subst h
        have := pub_own c 1 (rowsL m mks m.edges.length)
        rw [hrl] at this; exact this
      have hrows : rowsL m mks m.edges.length = (m.edges.map fun e => madeL mks e.needs).map fun l => .slc (l.map nD) := by
        unfold rowsL; rw [List.take_length, List.map_map]; rfl
      refine Goes.publishElt 4 b rfl gS_b ?_
      have hsp : ∀ xs, spub b 4 xs (gS b mb (.slc (m.edges.map XEdge.d)) (.slc (m.defs.map sD)) (.slc (rowsL m mks m.edges.length)) mks ρ) = (mb, AObj.mp (mkE mks)) :: ρ := fun xs => by
        simp only [gS, spub, if_true, if_neg hbm, mkE_pub, hρ2 b hb2 4 xs]
      have hep : ∀ xs, epub b 4 xs [(4, D.ptr b 4 0 0), (11, D.slc ((List.range m.edges.length).map nD))] = [(4, D.ptr b 4 0 0), (11, D.slc ((List.range m.edges.length).map nD))] := fun _ => rfl
      rw [hsp, hep, hrows]
      have hto2 := hto
      have hrk : ((List.range m.edges.length).map nD).length = m.edges.length := by simp
      have hol : ((orderL (m.edges.map fun e => madeL mks e.needs) (List.range m.edges.length)).map nD).length = (orderL (m.edges.map fun e => madeL mks e.needs) (List.range m.edges.length)).length := List.length_map ..
      have hnew : newG m = if (orderL (m.edges.map fun e => madeL mks e.needs) (List.range m.edges.length)).length < m.edges.length then .inl 12 else .inr ⟨m, mks, m.edges.map fun e => madeL mks e.needs⟩ := by
        unfold newG; rw [hto]
      refine Goes.exit rfl ?_
      refine Goes.seq ?_
      refine Goes.seq ?_
      refine Goes.region [4, 11] fun K hK => ?_; simp (maxSteps := 4000000) only [go_sem, ↓reduceIte, reduceCtorEq, zqa, zqb, zqc, zqd, zqe, zqf, zqg, zqh, zqi, zqj, zqk, zql, zqm]
      refine ⟨_, Tryz.call56, (order_calls (.slc (m.edges.map XEdge.d)) (.slc (m.defs.map sD)) (.map mb) (m.edges.map fun e => madeL mks e.needs) (List.range m.edges.length) _ (by simp; omega) (fun n hn => by simpa using hn) (fun l hl2 => by
        obtain ⟨e, he, rfl⟩ := List.mem_map.1 hl2
        have h0 := madeL_len mks e.needs e.needs.length (Nat.le_refl _)
        rw [List.take_length] at h0
        have h1 := (hs e he).ins
        have h2 := (hs e he).impl
        have h3 := (hs e he).order
        unfold XEdge.needs at *; simp only [List.length_append] at h0; omega)).mono ?_⟩
      rintro e σ1 ⟨rfl, rfl⟩
      simp only [go_sem, ↓reduceIte, reduceCtorEq, zqa, zqb, zqc, zqd, zqe, zqf, zqg, zqh, zqi, zqj, zqk, zql, zqm, hrk, hol]
      refine hK _ _ ?_; clear hK K
      refine Goes.cond rfl (fun h105 => ?_) (fun h105 => ?_)
      · have hlt12 : (orderL (m.edges.map fun e => madeL mks e.needs) (List.range m.edges.length)).length < m.edges.length := by simpa using h105
        refine Goes.seq ?_
        refine Goes.region [] fun K hK => ?_; simp (maxSteps := 4000000) only [go_sem, ↓reduceIte, reduceCtorEq, zqa, zqb, zqc, zqd, zqe, zqf, zqg, zqh, zqi, zqj, zqk, zql, zqm]
        refine hK _ _ ?_; clear hK K
        refine Goes.ret hC Tryz.func20 (by simp [go_sem]) ?_
        simp only [go_sem, ↓reduceIte, reduceCtorEq, zqa, zqb, zqc, zqd, zqe, zqf, zqg, zqh, zqi, zqj, zqk, zql, zqm]
        rw [hnew, if_pos hlt12]
        rfl
      · have hlt12 : ¬ (orderL (m.edges.map fun e => madeL mks e.needs) (List.range m.edges.length)).length < m.edges.length := by simpa using h105
        refine Goes.skip ?_
        refine Goes.seq ?_
        refine Goes.region [4] fun K hK => ?_; simp (maxSteps := 4000000) only [go_sem, ↓reduceIte, reduceCtorEq, zqa, zqb, zqc, zqd, zqe, zqf, zqg, zqh, zqi, zqj, zqk, zql, zqm]
        refine hK _ _ ?_; clear hK K
        refine Goes.ret hC Tryz.func20 (by simp [go_sem]) ?_
        simp only [go_sem, ↓reduceIte, reduceCtorEq, zqa, zqb, zqc, zqd, zqe, zqf, zqg, zqh, zqi, zqj, zqk, zql, zqm]
        rw [hnew, if_neg hlt12]
        exact ⟨mb, rfl, sget_self ..⟩
end Go.Ab.S16
set_option linter.unusedSimpArgs false
set_option linter.unusedVariables false
set_option linter.constructorNameAsVariable false
namespace Go.Ab
open Go Go.RowKit Go.Sort
variable {P : Program} {f : FuncId} {args : List D} {σ : Store} {α : Type} [Inhabited α]
theorem put_heap (enc : α → Value) (w : World) (b n : Nat) (d : Array α) (os : Array Obj) (k : Nat) (hk : k < w.heap.size) :
    (grow (putRow enc (Sort.ahead w n) b 0 d) os).heap[k]? = if b = k then (w.heap[k]?).map (onCells (putCells enc 0 d)) else w.heap[k]? := by
  unfold grow putRow mapBlock
  show (w.heap.modify b (onCells (putCells enc 0 d)) ++ os)[k]? = _
  rw [Array.getElem?_append_left (by simpa using hk), Array.getElem?_modify]
theorem put_sim {w : World} {S : Nat → Prop} {b : Nat} {xs : List Value} (enc : α → Value) (hS : SOk w S) (hst : RepStore w S σ) (hb : sget b σ = some (.arr 1 (xs.map D.v))) (d : Array α) (hd : d.size = xs.length) (h1 : ∀ x : α, (enc x).oneCell' = true) (n : Nat) (os : Array Obj) :
    RepStore (grow (putRow enc (Sort.ahead w n) b 0 d) os) S (sset b (.arr 1 ((d.toList.map enc).map D.v)) σ) ∧ Fr w S (sdom σ) (grow (putRow enc (Sort.ahead w n) b 0 d) os) S (sset b (.arr 1 ((d.toList.map enc).map D.v)) σ) := by
  obtain ⟨hbS, c, e, lo, hi, vals, hh, hr, hcv, hsz, hfz⟩ := hst b _ hb
  have hbl : b < w.heap.size := (Array.getElem?_eq_some_iff.1 hh).1
  have hvl : vals = xs := by rw [flat_v] at hr; exact hr.v_inv
  subst hvl
  have hsz2 : w.heap.size ≤ (grow (putRow enc (Sort.ahead w n) b 0 d) os).heap.size := by
    unfold grow putRow mapBlock
    show w.heap.size ≤ (w.heap.modify b _ ++ os).size
    simp
  have hblk : ∀ k, k < w.heap.size → k ≠ b → (grow (putRow enc (Sort.ahead w n) b 0 d) os).heap[k]? = w.heap[k]? := fun k hk hkb => by
    rw [put_heap enc w b n d os k hk, if_neg (Ne.symm hkb)]
  have hnew : (grow (putRow enc (Sort.ahead w n) b 0 d) os).heap[b]? = some (.cells (putCells enc 0 d c) e (lo, hi)) := by
    rw [put_heap enc w b n d os b hbl, if_pos rfl, hh]; rfl
  have hcs : (putCells enc 0 d c).size = c.size := by simp [putCells]
  have hsh : Shape w (grow (putRow enc (Sort.ahead w n) b 0 d) os) := fun k c' e' fr h => by
    by_cases hkb : k = b
    · subst hkb
      rw [hh] at h
      cases h
      exact ⟨_, _, hnew, hcs⟩
    · exact ⟨c', fr, (hblk k (Array.getElem?_eq_some_iff.1 h).1 hkb).trans h, rfl⟩
  have hE : Ev w S (grow (putRow enc (Sort.ahead w n) b 0 d) os) S := ⟨fun _ h => h, fun k hk => hblk k (hS.lt k hk) (fun e => hbS (e ▸ hk)), hsh⟩
  refine ⟨fun k o hk => ?_, ⟨rfl, rfl, rfl, hsz2, hsh, fun k hk hd => hblk k hk (fun e => hd (by rw [e]; unfold sdom; rw [hb]; simp)), fun _ h => h, fun _ h => .inl h, fun k hk => ?_, fun k hk => Nat.lt_of_lt_of_le (hS.lt k hk) hsz2⟩⟩
  · rw [sget_sset] at hk
    split at hk
    · rename_i hkb
      subst hkb
      rw [hb] at hk
      cases hk
      refine ⟨hbS, putCells enc 0 d c, e, lo, hi, d.toList.map enc, hnew, ?_, ?_, ?_, by rw [hcs]; exact hfz⟩
      · rw [flat_v]
        exact repL_v _ (by simp [List.all_map, h1])
      · intro j x hj
        rw [List.getElem?_map] at hj
        obtain ⟨y, hy, rfl⟩ := Option.map_eq_some_iff.1 hj
        have hjl : j < d.size := by
          have := (List.getElem?_eq_some_iff.1 hy).1
          simpa using this
        have hjc : j < c.size := by
          have h3 := hcv j (vals[j]'(by omega)) (List.getElem?_eq_getElem (by omega))
          exact (Array.getElem?_eq_some_iff.1 h3).1
        simp only [putCells, Array.getElem?_mapIdx]
        rw [Array.getElem?_eq_getElem hjc]
        simp only [Option.map_some, Option.some.injEq]
        rw [if_pos ⟨Nat.zero_le _, by omega⟩, Nat.sub_zero, getElem!_pos d j hjl]
        have : d[j] = y := by
          have := List.getElem?_eq_some_iff.1 hy
          obtain ⟨h5, h6⟩ := this
          simpa using h6
        rw [this]
      · intro x hx
        obtain ⟨y, _, rfl⟩ := List.mem_map.1 hx
        rfl
    · rename_i hkb
      have h2 := hst k o hk
      exact ⟨h2.1, h2.2.ev hE (hblk k h2.2.lt hkb)⟩
  · unfold sdom at *
    rw [sget_sset] at hk
    split at hk
    · rename_i hkb
      subst hkb
      rw [hb]; exact .inl (by simp)
    · exact .inl hk
theorem put_holds {w : World} {S : Nat → Prop} {b : Nat} {xs : List α} (enc : α → Value) (hst : RepStore w S σ) (hb : sget b σ = some (.arr 1 ((xs.map enc).map D.v))) : Holds enc w b 0 xs.toArray ∧ b < w.heap.size := by
  obtain ⟨hbS, c, e, lo, hi, vals, hh, hr, hcv, hsz, hfz⟩ := hst b _ hb
  have hbl : b < w.heap.size := (Array.getElem?_eq_some_iff.1 hh).1
  have hvl : vals = xs.map enc := by rw [flat_v] at hr; exact hr.v_inv
  subst hvl
  refine ⟨fun j hj => ?_, hbl⟩
  have hj2 : j < xs.length := by simpa using hj
  have hc := hcv j (enc xs[j]) (by rw [List.getElem?_map, List.getElem?_eq_getElem hj2]; rfl)
  refine ⟨?_, ?_⟩
  · rw [cells_of_row hh, Nat.zero_add, hc, getElem!_pos xs.toArray j hj]
    simp
  · have hjc : j < c.size := (Array.getElem?_eq_some_iff.1 hc).1
    simp only [World.frozen?, hh, Nat.zero_add]
    rcases hfz with h | h
    · simp; omega
    · simp; omega
def putRet (b : Nat) : Option Nat → D
  | some k => .own (some b) 1 k
  | none => .tup []
def putVal (b cap : Nat) : Option Nat → Value
  | some k => .slice (some ⟨b, 0, none⟩) k cap
  | none => .tuple #[]
/-- A row of one's own written anew: where no result is handed back, or the row itself, of another length. -/
theorem ACalls.of_put {b : Nat} {xs : List α} (enc : α → Value) (h1 : ∀ x : α, (enc x).oneCell' = true) (hb : sget b σ = some (.arr 1 ((xs.map enc).map D.v))) (ys : List α) (hy : ys.length = xs.length) (m : Option Nat) (hm : ∀ k, m = some k → k ≤ xs.length)
    (h : ∀ (w : World) (cap : Nat), Holds enc w b 0 xs.toArray → b < w.heap.size → xs.length ≤ cap → Calls P f #[.slice (some ⟨b, 0, none⟩) xs.length cap] w fun e w' => e = .returned (putVal b cap m) ∧ ∃ n os, w' = grow (putRow enc (Sort.ahead w n) b 0 ys.toArray) os) :
    ACalls P f [.own (some b) 1 xs.length] σ (fun e σ' => e = .ret (putRet b m) ∧ σ' = sset b (.arr 1 ((ys.map enc).map D.v)) σ) := by
  intro w S vs hS hst hr
  obtain ⟨v, vs, rfl, h2, h3⟩ := hr.cons_inv
  obtain rfl := h3.nil_inv
  obtain ⟨hH, hbl⟩ := put_holds enc hst hb
  cases h2 with
  | own hh hn hc hmx =>
    rename_i cap c e fr
    refine (h w cap hH hbl hn).mono ?_
    rintro e w' ⟨rfl, n, os, rfl⟩
    obtain ⟨hst', hfr⟩ := put_sim enc hS hst hb ys.toArray (by simpa using hy) h1 n os
    refine ⟨.ret (putRet b m), _, S, ⟨rfl, rfl⟩, ?_, hst', hfr⟩
    cases m with
    | none => exact .tup .nil
    | some k =>
      have hnew : (grow (putRow enc (Sort.ahead w n) b 0 ys.toArray) os).heap[b]? = some (.cells (putCells enc 0 ys.toArray c) e fr) := by
        rw [put_heap enc w b n ys.toArray os b hbl, if_pos rfl, hh]; rfl
      have hk := hm k rfl
      exact .own hnew (by omega) (by simp only [putCells, Array.size_mapIdx]; omega) hmx
theorem RepL.append_inv {w : World} {S : Nat → Prop} : ∀ {ds es : List D} {vs : List Value}, RepL w S (ds ++ es) vs → ∃ xs ys, vs = xs ++ ys ∧ RepL w S ds xs ∧ RepL w S es ys
  | [], _, vs, h => ⟨[], vs, rfl, .nil, h⟩
  | d :: ds, es, vs, h => by
    obtain ⟨x, xs, rfl, h1, h2⟩ := RepL.cons_inv (ds := ds ++ es) h
    obtain ⟨ys, zs, rfl, h3, h4⟩ := RepL.append_inv h2
    exact ⟨x :: ys, zs, rfl, .cons h1 h3, h4⟩
/-- The tail of a row of one's own is forgotten. -/
theorem ACalls.cut {R R' : AEnd → Store → Prop} (h : ACalls P f args σ R) (hr : ∀ e σ', R e σ' → R' e σ' ∨ ∃ b sz xs zs ρ, σ' = (b, .arr sz (xs ++ zs)) :: ρ ∧ R' e ((b, .arr sz xs) :: ρ)) : ACalls P f args σ R' := by
  intro w S vs hS hst hv
  refine (h w S vs hS hst hv).mono ?_
  rintro e w' ⟨ae, σ', S', hR, hend, hst', hfr⟩
  rcases hr ae σ' hR with hR' | ⟨b, sz, xs, zs, ρ, rfl, hR'⟩
  · exact ⟨ae, σ', S', hR', hend, hst', hfr⟩
  · refine ⟨ae, _, S', hR', hend, fun k o hk => ?_, { hfr with dom := fun k hk => hfr.dom k ?_ }⟩
    · rw [sget_cons] at hk
      split at hk
      · rename_i hkb
        cases hk
        obtain ⟨h1, c, e', lo, hi, vals, h2, h3, h4, h5, h6⟩ := hst' k (.arr sz (xs ++ zs)) (by rw [sget_cons, if_pos hkb])
        rw [flat_append] at h3
        obtain ⟨v1, v2, rfl, r1, r2⟩ := h3.append_inv
        refine ⟨h1, c, e', lo, hi, v1, h2, r1, fun j x hj => h4 j x ?_, fun x hx => h5 x (List.mem_append_left _ hx), h6⟩
        rw [List.getElem?_append_left (List.getElem?_eq_some_iff.1 hj).1]; exact hj
      · rename_i hkb
        exact hst' k o (by rw [sget_cons, if_neg hkb]; exact hk)
    · unfold sdom at *
      rw [sget_cons] at hk ⊢
      split at hk <;> simp_all
end Go.Ab
set_option linter.unusedSimpArgs false
set_option linter.unusedVariables false
set_option linter.constructorNameAsVariable false
namespace Go.Ab.S16
open Go Go.Proofs Go.RowKit Go.Maps Go.Sort Go.Shelf
def bL (s : ByteArray) : List UInt8 := s.data.toList
def lB (l : List UInt8) : ByteArray := ⟨l.toArray⟩
theorem lB_bL (s : ByteArray) : lB (bL s) = s := by cases s; rfl
theorem bL_lB (l : List UInt8) : bL (lB l) = l := rfl
/-- Strings in order. -/
def sortB (l : List ByteArray) : List ByteArray := (isort leB (l.map bL)).map lB
theorem leB_iff (a b : List UInt8) : leB a b = true ↔ a ≤ b := by simp [leB]
theorem leB_tr (a b c : List UInt8) (h1 : leB a b = true) (h2 : leB b c = true) : leB a c = true := by simp only [leB, decide_eq_true_eq] at *; exact List.le_trans h1 h2
theorem leB_tot (a b : List UInt8) : (leB a b || leB b a) = true := by simp only [leB, Bool.or_eq_true, decide_eq_true_eq]; exact List.le_total a b
theorem leB_anti (a b : List UInt8) (h1 : leB a b = true) (h2 : leB b a = true) : a = b := by simp only [leB, decide_eq_true_eq] at *; exact List.le_antisymm h1 h2
theorem isortB_eq (l : List (List UInt8)) : l.mergeSort leB = isort leB l := isort_eq leB_tr leB_tot leB_anti l
def compactB (l : List ByteArray) : List ByteArray := (Lib.compact (l.map bL)).map lB
theorem encS (l : List ByteArray) : ((l.map bL).map encStr).map D.v = l.map sD := by
  rw [List.map_map, List.map_map]
  refine List.map_congr_left fun s _ => ?_
  show D.v (.string (lB (bL s))) = _
  rw [lB_bL]; rfl
theorem encS2 (l : List (List UInt8)) : (l.map encStr).map D.v = (l.map lB).map sD := by
  rw [List.map_map, List.map_map]
  rfl
theorem sortB_len (l : List ByteArray) : (sortB l).length = l.length := by unfold sortB; rw [List.length_map, (isort_perm _).length_eq, List.length_map]
theorem sort_own (o : Option Nat) (l : List ByteArray) (ρ : Store) (hg : GrD o 1 (l.map sD) ρ) (hl : l.length < 2 ^ 40) :
    ACalls Tryz.prog 94 [.own o 1 l.length] (cellsOf o 1 (l.map sD) ++ ρ) (fun e σ' => e = .ret (.tup []) ∧ σ' = cellsOf o 1 ((sortB l).map sD) ++ ρ) := by
  cases o with
  | none =>
    have : l = [] := by have := hg.zero rfl; simpa using this
    subst this
    intro w S vs hS hst hr
    obtain ⟨v, vs, rfl, h2, h3⟩ := hr.cons_inv
    obtain rfl := h3.nil_inv
    cases h2 with
    | own0 =>
    refine (Tryz.slices_Sort_string_none _ _ w).mono ?_
    rintro e w' ⟨rfl, rfl⟩
    exact ⟨.ret (.tup []), _, S, ⟨rfl, rfl⟩, .tup .nil, hst, Fr.refl _ hS.lt⟩
  | some b =>
    have h := ACalls.of_put (P := Tryz.prog) (f := 94) (b := b) (xs := l.map bL) (σ := (b, .arr 1 (l.map sD)) :: ρ) encStr (fun _ => rfl) (by rw [encS, sget_self]) ((l.map bL).mergeSort leB) (by simp) none (fun _ h => by cases h) (fun w cap hH hb _ => Tryz.slices_Sort_string b 0 cap _ w hH hb (by simp; omega))
    rw [List.length_map] at h
    refine h.mono ?_
    rintro e σ' ⟨rfl, rfl⟩
    refine ⟨rfl, ?_⟩
    rw [isortB_eq, encS2, sset_self]
    rfl
theorem compact_own (o : Option Nat) (l : List ByteArray) (ρ : Store) (hg : GrD o 1 (l.map sD) ρ) (hl : l.length < 2 ^ 40) :
    ACalls Tryz.prog 98 [.own o 1 l.length] (cellsOf o 1 (l.map sD) ++ ρ) (fun e σ' => ∃ zs : List ByteArray, e = .ret (.own o 1 (compactB l).length) ∧ σ' = cellsOf o 1 ((compactB l ++ zs).map sD) ++ ρ ∧ GrD o 1 ((compactB l ++ zs).map sD) ρ) := by
  cases o with
  | none =>
    have : l = [] := by have := hg.zero rfl; simpa using this
    subst this
    intro w S vs hS hst hr
    obtain ⟨v, vs, rfl, h2, h3⟩ := hr.cons_inv
    obtain rfl := h3.nil_inv
    cases h2 with
    | own0 =>
    refine (Tryz.slices_Compact_string_empty _ _ w).mono ?_
    rintro e w' ⟨rfl, rfl⟩
    exact ⟨.ret (.own none 1 0), _, S, ⟨[], rfl, rfl, hg⟩, .own0, hst, Fr.refl _ hS.lt⟩
  | some b =>
    have hle : (Lib.compact (l.map bL)).length ≤ l.length := by
      unfold Lib.compact Lib.compactUpTo
      rw [List.length_map]
      exact Nat.le_trans (List.length_filter_le ..) (by simp)
    have h := ACalls.of_put (P := Tryz.prog) (f := 98) (b := b) (xs := l.map bL) (σ := (b, .arr 1 (l.map sD)) :: ρ) encStr (fun _ => rfl) (by rw [encS, sget_self]) (Lib.compact (l.map bL) ++ List.replicate ((l.map bL).length - (Lib.compact (l.map bL)).length) []) (by simp; omega) (some (Lib.compact (l.map bL)).length) (fun k h => by cases h; rw [List.length_map]; exact hle) (fun w cap hH hb hcap => (Tryz.slices_Compact_string b 0 cap _ w hH (by simp; omega) hcap).mono fun e w' ⟨h1, q, h2⟩ => ⟨h1, q, #[], by rw [h2, grow_empty]⟩)
    rw [List.length_map] at h
    refine h.mono ?_
    rintro e σ' ⟨rfl, rfl⟩
    refine ⟨(List.replicate (l.length - (Lib.compact (l.map bL)).length) []).map lB, ?_, ?_, ⟨hg.fresh, nofun⟩⟩
    · simp [putRet, compactB]
    · rw [encS2, sset_self, List.map_append]
      rfl
theorem sortsS (m : Nat) : AnyZ.SortsIn Tryz.prog Tryz.sortedS_ren Fence.wide m :=
  ⟨fun blk off cap ss W hH hblk hsz => callsIn_wide.2 (AnyM.slices_Sort_string Tryz.sortS blk off cap ss W hH hblk hsz),
   fun p cap W => callsIn_wide.2 (AnyM.slices_Sort_string_none Tryz.sortS p cap W)⟩
theorem keysS_calls (db : Nat) (σ : Store) :
    ACalls Tryz.prog 96 [.map db] σ (fun e σ' => ∃ bk, sget bk σ = none ∧ e = .ret (.clo (.func 126) [] [.ptr bk 1 0 0]) ∧ σ' = (bk, .arr 1 [.map db]) :: σ) := by
  refine ACalls.of_body Tryz.func96 rfl Tryz.ntmps96 (by simp) fun C hC => ?_
  refine Goes.seq ?_
  refine Goes.region [0] fun K hK => ?_; simp (maxSteps := 4000000) only [go_sem, ↓reduceIte, reduceCtorEq, zqa, zqb, zqc, zqd, zqe, zqf, zqg, zqh, zqi, zqj, zqk, zql, zqm]
  intro bk hbk
  refine hK _ _ ?_; clear hK K
  refine Goes.seq ?_
  refine Goes.region [1] fun K hK => ?_; simp (maxSteps := 4000000) only [go_sem, ↓reduceIte, reduceCtorEq, zqa, zqb, zqc, zqd, zqe, zqf, zqg, zqh, zqi, zqj, zqk, zql, zqm]
  refine hK _ _ ?_; clear hK K
  refine Goes.ret hC Tryz.func96 (by simp [go_sem]) ?_
  simp only [go_sem, ↓reduceIte, reduceCtorEq, zqa, zqb, zqc, zqd, zqe, zqf, zqg, zqh, zqi, zqj, zqk, zql, zqm]
  exact ⟨bk, hbk, rfl, rfl⟩
theorem mkE_keys (mks : List (ByteArray × Nat)) : (mkE mks).map (·.1) = mks.map fun p => Value.string p.1 := by unfold mkE; rw [List.map_map]; rfl
/-- The files of a map, in order. -/
theorem sortedS_own (bk db : Nat) (mks : List (ByteArray × Nat)) (σ : Store) (hk : sget bk σ = some (.arr 1 [.map db])) (hd : sget db σ = some (.mp (mkE mks))) (hnd : (mks.map (·.1)).Nodup) (hl : mks.length < 2 ^ 30) (hB : ∀ p ∈ mks, p.1.size ≤ maxLen) :
    ACalls Tryz.prog 95 [.clo (.func 126) [] [.ptr bk 1 0 0]] σ
      (fun e σ' => ∃ o xs, (xs = (isort leB ((mks.map (·.1)).map bL)).map encStr) ∧ GrD o 1 (xs.map .v) σ ∧ e = .ret (.own o 1 (xs.map D.v).length) ∧ σ' = cellsOf o 1 (xs.map .v) ++ σ) := by
  refine ACalls.of_row (e0 := 9) fun w S vs hS hst hr => ?_
  obtain ⟨v1, vs1, rfl, h1, h2⟩ := hr.cons_inv
  obtain rfl := h2.nil_inv
  cases h1 with
  | clo hf hc =>
  obtain rfl := hf.nil_inv
  obtain ⟨v1, vs1, rfl, h1, h2⟩ := hc.cons_inv
  obtain rfl := h2.nil_inv
  cases h1 with
  | ptr =>
  obtain ⟨hkS, hk2⟩ := hst bk _ hk
  obtain ⟨cK, eK, lo, hi, vals, hhk, hrk, hck, _, _⟩ := hk2
  obtain ⟨y, ys, rfl, hy, hys⟩ := RepL.cons_inv (d := .map db) (ds := []) hrk
  cases hy with
  | map =>
  obtain rfl := hys.nil_inv
  have hbk : bk < w.heap.size := (Array.getElem?_eq_some_iff.1 hhk).1
  have hcell : w.cell? ⟨bk, 0, none⟩ = some (.map (some db)) := by
    have := hck 0 _ rfl
    simp [World.cell?, hhk, this]
  obtain ⟨hdS, hd2⟩ := hst db _ hd
  obtain ⟨L, hown, hperm⟩ := ownsSet (P := Tryz.prog) (k := 9) (w := w) litOf (fun e he => by
    obtain ⟨p, hp, rfl⟩ := List.mem_map.1 he
    exact WideMaps.keyOf_string_mk Tryz.underlying9 (hB p hp)) (by
      rw [mkE_keys]
      have h3 : mks.map (fun p => Value.string p.1) = (mks.map (·.1)).map Value.string := by rw [List.map_map]; rfl
      rw [h3]
      exact List.pairwise_map.2 (hnd.imp fun {a b} hab e => hab (by simpa using e))) (by simp [mkE, maxLen]; omega) hd2
  have hsz : Maps.size (DataW.map L) = mks.length := by
    have := hperm.length_eq
    rw [List.length_map, List.length_map] at this
    show L.length = _
    rw [this]; simp [mkE]
  have hik : (strKeys (DataW.map L)).Perm ((mks.map (·.1)).map bL) := by
    have h1 := hperm.map strOf
    rw [List.map_map] at h1
    refine h1.trans ?_
    unfold mkE
    rw [List.map_map, List.map_map, List.map_map]
    exact List.Perm.refl _
  have hseq : SeqGives Fence.wide 2 Tryz.prog 126 #[.pointer (some ⟨bk, 0, none⟩)] encStr (fun ss => ss.Perm (strKeys (DataW.map L))) (Maps.size (DataW.map L)) w :=
    AnyZ.keys_gives (ρ := Tryz.keysS_ren) { Tryz.keysS with } Fence.wide _ trivial rfl (by omega) bk db _ (DataW.map L) w hbk hcell hown
  have cS := AnyZ.sorted_in Tryz.sortedS Fence.wide 5 trivial trivial trivial trivial rfl (by omega) (sortsS _) (enters_of Tryz.func94 (by kernel_rfl) rfl) 126 #[.pointer (some ⟨bk, 0, none⟩)] trivial (enters_of Tryz.func126 (by kernel_rfl) rfl) _ _ (by rw [hsz]; unfold maxLen; omega) (by rw [hsz]; omega) _ hseq
  change CallsIn _ _ Tryz.prog 95 _ _ _ at cS
  rw [show (0 : Nat) * 1 + 0 = 0 from rfl]
  refine (callsIn_wide.1 cS).mono ?_
  rintro e w' ⟨v, ss, rfl, hS', hrow, hnil, hb⟩
  have hss : ss.mergeSort leB = isort leB ((mks.map (·.1)).map bL) := (mergeSort_of_perm (hS'.trans hik)).trans (isortB_eq _)
  refine ⟨v, _, rfl, ?_, ?_, rfl, hb⟩
  · have e1 : ((isort leB ((mks.map (·.1)).map bL)).map encStr).length = ss.length := by rw [← hss]; simp
    rw [e1, ← hss]
    exact hrow
  · rw [List.all_eq_true]
    intro x hx
    obtain ⟨y, _, rfl⟩ := List.mem_map.1 hx
    rfl
end Go.Ab.S16
set_option linter.unusedSimpArgs false
set_option linter.unusedVariables false
set_option linter.constructorNameAsVariable false
namespace Go.Ab.S16
open Go Go.Proofs Go.RowKit Go.Maps Go.Sort Go.Shelf
theorem GrD.re {o : Option Nat} {sz : Nat} {xs ys : List D} {ρ : Store} (h : GrD o sz xs ρ) (hxy : xs = [] → ys = []) : GrD o sz ys ρ := ⟨h.fresh, fun e => hxy (h.zero e)⟩
theorem compact_cut (o : Option Nat) (l : List ByteArray) (ρ : Store) (hg : GrD o 1 (l.map sD) ρ) (hl : l.length < 2 ^ 40) :
    ACalls Tryz.prog 98 [.own o 1 l.length] (cellsOf o 1 (l.map sD) ++ ρ) (fun e σ' => e = .ret (.own o 1 (compactB l).length) ∧ σ' = cellsOf o 1 ((compactB l).map sD) ++ ρ ∧ GrD o 1 ((compactB l).map sD) ρ) := by
  refine (compact_own o l ρ hg hl).cut ?_
  rintro e σ' ⟨zs, rfl, rfl, hgr⟩
  cases o with
  | none =>
    have hz := hgr.zero rfl
    rw [List.map_append, List.append_eq_nil_iff] at hz
    exact .inl ⟨rfl, rfl, ⟨nofun, fun _ => hz.1⟩⟩
  | some b => exact .inr ⟨b, 1, (compactB l).map sD, zs.map sD, ρ, by rw [← List.map_append]; rfl, rfl, rfl, ⟨hgr.fresh, nofun⟩⟩
theorem deleteFunc_str0 (g : FuncId) (caps : List D) (p : ByteArray → Bool) (ρ : Store) (ht : Tests caps g p [] ρ) :
    ACalls Tryz.prog 71 [.own none 1 0, .clo (.func g) [] caps] ρ (fun e σ' => e = .ret (.own none 1 0) ∧ σ' = ρ) := by
  have hix := (indexFunc_str [] g caps p ρ (by simp) ht).args_le (args := [.own none 1 0, .clo (.func g) [] caps]) (fun w S vs h => by
    obtain ⟨v, vs, rfl, h1, h2⟩ := h.cons_inv
    exact .cons (DLe.own_slc _ _ _ _ _ h1) h2)
  refine ACalls.of_body Tryz.func71 rfl Tryz.ntmps71 (by simp) fun C hC => ?_
  refine Goes.seq ?_
  refine Goes.region [0, 1] fun K hK => ?_; simp (maxSteps := 4000000) only [go_sem, ↓reduceIte, reduceCtorEq, zqa, zqb, zqc, zqd, zqe, zqf, zqg, zqh, zqi, zqj, zqk, zql, zqm]
  refine hK _ _ ?_; clear hK K
  refine Goes.seq ?_
  refine Goes.region [0, 1] fun K hK => ?_; simp (maxSteps := 4000000) only [go_sem, ↓reduceIte, reduceCtorEq, zqa, zqb, zqc, zqd, zqe, zqf, zqg, zqh, zqi, zqj, zqk, zql, zqm]
  refine ⟨_, Tryz.call74, hix.mono ?_⟩
  rintro e σ1 ⟨rfl, rfl⟩
  simp only [go_sem, ↓reduceIte, reduceCtorEq, zqa, zqb, zqc, zqd, zqe, zqf, zqg, zqh, zqi, zqj, zqk, zql, zqm]
  refine hK _ _ ?_; clear hK K
  refine Goes.seq ?_
  refine Goes.seq ?_
  refine Goes.region [0, 1, 5] fun K hK => ?_; simp (maxSteps := 4000000) only [go_sem, ↓reduceIte, reduceCtorEq, zqa, zqb, zqc, zqd, zqe, zqf, zqg, zqh, zqi, zqj, zqk, zql, zqm]
  refine hK _ _ ?_; clear hK K
  refine Goes.condT rfl ?_
  refine Goes.seq ?_
  refine Goes.region [0] fun K hK => ?_; simp (maxSteps := 4000000) only [go_sem, ↓reduceIte, reduceCtorEq, zqa, zqb, zqc, zqd, zqe, zqf, zqg, zqh, zqi, zqj, zqk, zql, zqm]
  refine hK _ _ ?_; clear hK K
  refine Goes.ret hC Tryz.func71 (by simp [go_sem]) ?_
  simp only [go_sem, ↓reduceIte, reduceCtorEq, zqa, zqb, zqc, zqd, zqe, zqf, zqg, zqh, zqi, zqj, zqk, zql, zqm]
/-- What is left of a row of one's own. -/
theorem deleteFunc_strG (o : Option Nat) (l : List ByteArray) (g : FuncId) (caps : List D) (p : ByteArray → Bool) (ρ : Store) (hl : l.length < 2 ^ 40) (hg : GrD o 1 (l.map sD) ρ) (ht : ∀ τ, SLe ρ τ → Tests caps g p l τ) :
    ACalls Tryz.prog 71 [.own o 1 l.length, .clo (.func g) [] caps] (cellsOf o 1 (l.map sD) ++ ρ)
      (fun e σ' => e = .ret (.own o 1 (kept p l).length) ∧ σ' = cellsOf o 1 ((kept p l).map sD) ++ ρ ∧ GrD o 1 ((kept p l).map sD) ρ) := by
  cases o with
  | none =>
    have : l = [] := by have := hg.zero rfl; simpa using this
    subst this
    refine (deleteFunc_str0 g caps p ρ (ht ρ (SLe.refl ρ))).mono ?_
    rintro e σ' ⟨rfl, rfl⟩
    exact ⟨rfl, rfl, GrD.nil _ _⟩
  | some b =>
    refine (deleteFunc_str b l g caps p ρ hl (hg.fresh b rfl) ht).cut ?_
    rintro e σ' ⟨rfl, k, rfl⟩
    exact .inr ⟨b, 1, _, _, ρ, rfl, rfl, rfl, ⟨hg.fresh, nofun⟩⟩
theorem edge_calls (g : XGr) (mb n : Nat) (σ : Store) (hn : n < g.man.edges.length) (hl : g.man.edges.length < 2 ^ 30) (hs : ∀ e ∈ g.man.edges, e.small) :
    ACalls Tryz.prog 35 [g.d mb, nD n] σ (fun e σ' => e = .ret (g.man.edges[n].d) ∧ σ' = σ) := by
  refine ACalls.still ?_ σ
  refine ACalls.forget (R := fun e _ => e = .ret (g.man.edges[n].d)) ?_ fun e σ' h => ⟨[], SLe.nil _, h, rfl⟩
  unfold XGr.d XGr.cells
  have hll : (g.man.edges.map XEdge.d).length = g.man.edges.length := List.length_map ..
  have hg := getD_map_lt XEdge.d g.man.edges n hn
  rw [XEdge.d] at hg
  have hi0 : (0 : Int) ≤ (n : Int) := by omega
  have hi1 : (n : Int) < ((g.man.edges.map XEdge.d).length : Int) := by omega
  have hz : decide ((n : Int) < 0) = false := by simp
  have hz2 : decide ((n : Int) ≥ (g.man.edges.length : Int)) = false := by simp; omega
  refine ACalls.of_body Tryz.func35 rfl Tryz.ntmps35 (by simp) fun C hC => ?_
  refine Goes.seq ?_
  refine Goes.region [0, 1] fun K hK => ?_; simp (maxSteps := 4000000) only [go_sem, ↓reduceIte, reduceCtorEq, zqa, zqb, zqc, zqd, zqe, zqf, zqg, zqh, zqi, zqj, zqk, zql, zqm]
  intro b4
  refine hK _ _ ?_; clear hK K
  refine Goes.seq ?_
  refine Goes.seq ?_
  refine Goes.region [0, 1, 4] fun K hK => ?_; simp (maxSteps := 4000000) only [go_sem, ↓reduceIte, reduceCtorEq, zqa, zqb, zqc, zqd, zqe, zqf, zqg, zqh, zqi, zqj, zqk, zql, zqm, nD, hll, hz, hz2]
  refine hK _ _ ?_; clear hK K
  refine Goes.condF rfl ?_
  refine Goes.skip ?_
  refine Goes.seq ?_
  refine Goes.region [0, 1, 4] fun K hK => ?_; simp (maxSteps := 4000000) only [go_sem, ↓reduceIte, reduceCtorEq, zqa, zqb, zqc, zqd, zqe, zqf, zqg, zqh, zqi, zqj, zqk, zql, zqm, nD, hg, hi0, hi1]
  refine ⟨_, Tryz.call53, (copied_calls g.man.edges[n] _ (hs _ (List.getElem_mem hn))).mono ?_⟩
  rintro e σ1 ⟨rfl, rfl⟩
  simp only [go_sem, ↓reduceIte, reduceCtorEq, zqa, zqb, zqc, zqd, zqe, zqf, zqg, zqh, zqi, zqj, zqk, zql, zqm, XEdge.d_eq g.man.edges[n]]
  refine hK _ _ ?_; clear hK K
  refine Goes.ret hC Tryz.func35 (by simp [go_sem]) ?_
  simp only [go_sem, ↓reduceIte, reduceCtorEq, zqa, zqb, zqc, zqd, zqe, zqf, zqg, zqh, zqi, zqj, zqk, zql, zqm]
  rfl
/-- What the edges need, as it comes. -/
def usedTo (m : XMan) (i : Nat) : List ByteArray := (m.edges.take i).flatMap XEdge.needs
def usedL (m : XMan) : List ByteArray := compactB (sortB (m.edges.flatMap XEdge.needs))
theorem usedTo_succ (m : XMan) (i : Nat) (h : i < m.edges.length) : usedTo m (i + 1) = usedTo m i ++ m.edges[i].needs := by
  unfold usedTo
  rw [List.take_succ_eq_append_getElem h, List.flatMap_append]
  simp
theorem needs_len (e : XEdge) (h : e.small) : e.needs.length ≤ 30 := by
  have h1 := h.ins
  have h2 := h.impl
  have h3 := h.order
  unfold XEdge.needs; simp only [List.length_append]; omega
theorem usedTo_len (m : XMan) (hs : ∀ e ∈ m.edges, e.small) : ∀ i, i ≤ m.edges.length → (usedTo m i).length ≤ 30 * i
  | 0, _ => by simp [usedTo]
  | i + 1, h => by
    have h1 := usedTo_len m hs i (by omega)
    have h2 := needs_len m.edges[i] (hs _ (List.getElem_mem (by omega)))
    rw [usedTo_succ m i (by omega), List.length_append]; omega
theorem used_own (g : XGr) (mb : Nat) (σ : Store) (hl : g.man.edges.length < 2 ^ 20) (hs : ∀ e ∈ g.man.edges, e.small) :
    ACalls Tryz.prog 70 [g.d mb] σ (fun e σ' => ∃ o, GrD o 1 ((usedL g.man).map sD) σ ∧ e = .ret (.own o 1 (usedL g.man).length) ∧ σ' = cellsOf o 1 ((usedL g.man).map sD) ++ σ) := by
  unfold XGr.d XGr.cells
  have hll : (g.man.edges.map XEdge.d).length = g.man.edges.length := List.length_map ..
  refine ACalls.of_body Tryz.func70 rfl Tryz.ntmps70 (by simp) fun C hC => ?_
  refine Goes.seq ?_
  refine Goes.region [0] fun K hK => ?_; simp (maxSteps := 4000000) only [go_sem, ↓reduceIte, reduceCtorEq, zqa, zqb, zqc, zqd, zqe, zqf, zqg, zqh, zqi, zqj, zqk, zql, zqm]
  refine hK _ _ ?_; clear hK K
  refine Goes.seq ?_
  refine Goes.region [0] fun K hK => ?_; simp (maxSteps := 4000000) only [go_sem, ↓reduceIte, reduceCtorEq, zqa, zqb, zqc, zqd, zqe, zqf, zqg, zqh, zqi, zqj, zqk, zql, zqm]
  refine hK _ _ ?_; clear hK K
  refine Goes.seq ?_
  refine Goes.seq ?_
  refine Goes.region [0, 3] fun K hK => ?_; simp (maxSteps := 4000000) only [go_sem, ↓reduceIte, reduceCtorEq, zqa, zqb, zqc, zqd, zqe, zqf, zqg, zqh, zqi, zqj, zqk, zql, zqm, hll]
  refine hK _ _ ?_; clear hK K
  refine Goes.block ?_
  refine Goes.nilOwn 3 1 rfl ?_
  refine Goes.rebase [3, 10, 11, 12] ?_
  simp only [go_sem, ↓reduceIte, reduceCtorEq, zqa, zqb, zqc, zqd, zqe, zqf, zqg, zqh, zqi, zqj, zqk, zql, zqm]
  refine Goes.while (fun (i : Nat) env' σ'' => ∃ o : Option Nat, (i ≤ g.man.edges.length ∧ GrD o 1 ((usedTo g.man i).map sD) σ) ∧ env' = [(3, .own o 1 (usedTo g.man i).length), (10, .slc (g.man.edges.map XEdge.d)), (11, .v (.int .i64 (g.man.edges.length : Int))), (12, .v (.int .i64 (i : Int)))] ∧ σ'' = cellsOf o 1 ((usedTo g.man i).map sD) ++ σ) (fun (i : Nat) => g.man.edges.length - i) 0 ⟨none, ⟨by omega, GrD.nil _ _⟩, rfl, rfl⟩ ?_
  rintro i env' σ'' ⟨o, ⟨hi, hgr⟩, rfl, rfl⟩ ih
  have ih1 := ih
  refine Goes.seq ?_
  refine Goes.region [3, 10, 11, 12] fun K hK => ?_; simp (maxSteps := 4000000) only [go_sem, ↓reduceIte, reduceCtorEq, zqa, zqb, zqc, zqd, zqe, zqf, zqg, zqh, zqi, zqj, zqk, zql, zqm]
  refine hK _ _ ?_; clear hK K
  refine Goes.seq ?_
  refine Goes.cond rfl (fun h13 => ?_) (fun h13 => ?_)
  · have hlt : i < g.man.edges.length := by simpa using h13
    have hg := getD_map_lt XEdge.d g.man.edges i hlt
    have hi0 : (0 : Int) ≤ (i : Int) := by omega
    have hi1 : (i : Int) < ((g.man.edges.map XEdge.d).length : Int) := by omega
    rw [XEdge.d] at hg
    have hsm := hs _ (List.getElem_mem hlt)
    have hnl := needs_len _ hsm
    have hul := usedTo_len g.man hs i hi
    have hsu := usedTo_succ g.man i hlt
    refine Goes.skip ?_
    refine Goes.seq ?_
    refine Goes.block ?_
    refine Goes.seq ?_
    refine Goes.region [3, 10, 11, 12] fun K hK => ?_; simp (maxSteps := 4000000) only [go_sem, ↓reduceIte, reduceCtorEq, zqa, zqb, zqc, zqd, zqe, zqf, zqg, zqh, zqi, zqj, zqk, zql, zqm, hg, hi0, hi1]
    intro be hbe
    refine hK _ _ ?_; clear hK K
    obtain ⟨hgrp, hle⟩ := hgr.push (x := .arr 6 [XEdge.d g.man.edges[i]]) hbe
    refine Goes.le (ELe.refl _) hle ?_
    have hbe2 := (hgr.none_of hbe).1
    have hge := (hgrp.keep (sget_self be (.arr 6 [XEdge.d g.man.edges[i]]) _)).trans (congrArg (fun x => some (AObj.arr 6 [x])) (XEdge.d_eq g.man.edges[i]))
    have ho := hgrp.oget
    have hd := hgrp.sdel
    have hml : ((usedTo g.man i).map sD).length = (usedTo g.man i).length := List.length_map ..
    have hml2 : (g.man.edges[i].needs.map sD).length = g.man.edges[i].needs.length := List.length_map ..
    have htk : List.take (usedTo g.man i).length ((usedTo g.man i).map sD) = (usedTo g.man i).map sD := List.take_of_length_le (by omega)
    refine Goes.region [3, 5, 10, 11, 12] fun K hK => ?_; simp (maxSteps := 4000000) only [go_sem, ↓reduceIte, reduceCtorEq, zqa, zqb, zqc, zqd, zqe, zqf, zqg, zqh, zqi, zqj, zqk, zql, zqm, hge]
    refine ⟨_, Tryz.call55, (needs_prog g.man.edges[i] _ hsm).mono ?_⟩
    rintro e σ1 ⟨rfl, rfl⟩
    simp only [go_sem, ↓reduceIte, reduceCtorEq, zqa, zqb, zqc, zqd, zqe, zqf, zqg, zqh, zqi, zqj, zqk, zql, zqm, ho, hd, htk]
    refine ⟨⟨by omega, plain_sD _, by omega, by omega⟩, fun ob hz hf => ?_⟩
    have hgr2 := hgrp.app hz hf
    have e1 : (usedTo g.man i).map sD ++ g.man.edges[i].needs.map sD = (usedTo g.man (i + 1)).map sD := by rw [hsu, List.map_append]
    rw [e1] at hgr2 ⊢
    have hdr := hgr2.drop hbe2
    refine hK _ _ ?_; clear hK K
    refine Goes.le (ELe.refl _) hdr.2 ?_
    refine Goes.inBlock ?_
    refine Goes.region [3, 10, 11, 12] fun K hK => ?_; simp (maxSteps := 4000000) only [go_sem, ↓reduceIte, reduceCtorEq, zqa, zqb, zqc, zqd, zqe, zqf, zqg, zqh, zqi, zqj, zqk, zql, zqm]
    refine hK _ _ ?_; clear hK K
    refine Goes.rebase [3, 10, 11, 12] ?_
    simp only [go_sem, ↓reduceIte, reduceCtorEq, zqa, zqb, zqc, zqd, zqe, zqf, zqg, zqh, zqi, zqj, zqk, zql, zqm]
    rw [wrap_succ i (by omega)]
    exact ih (i + 1) _ _ ⟨ob, ⟨by omega, hdr.1⟩, by rw [List.length_map], rfl⟩ (by omega)
  · have hie : i = g.man.edges.length := by simp at h13; omega
    subst hie
    have hul := usedTo_len g.man hs g.man.edges.length (Nat.le_refl _)
    have hse := sortB_len (usedTo g.man g.man.edges.length)
    have hgs : GrD o 1 ((sortB (usedTo g.man g.man.edges.length)).map sD) σ := GrD.re hgr fun h => by
      have : usedTo g.man g.man.edges.length = [] := by simpa using h
      rw [this]; rfl
    refine Goes.exit rfl ?_
    refine Goes.seq ?_
    refine Goes.region [3] fun K hK => ?_; simp (maxSteps := 4000000) only [go_sem, ↓reduceIte, reduceCtorEq, zqa, zqb, zqc, zqd, zqe, zqf, zqg, zqh, zqi, zqj, zqk, zql, zqm]
    refine ⟨_, Tryz.call94, (sort_own o (usedTo g.man g.man.edges.length) σ hgr (by omega)).mono ?_⟩
    rintro e σ1 ⟨rfl, rfl⟩
    simp only [go_sem, ↓reduceIte, reduceCtorEq, zqa, zqb, zqc, zqd, zqe, zqf, zqg, zqh, zqi, zqj, zqk, zql, zqm]
    refine hK _ _ ?_; clear hK K
    refine Goes.seq ?_
    rw [← hse]
    refine Goes.region [3] fun K hK => ?_; simp (maxSteps := 4000000) only [go_sem, ↓reduceIte, reduceCtorEq, zqa, zqb, zqc, zqd, zqe, zqf, zqg, zqh, zqi, zqj, zqk, zql, zqm]
    refine ⟨_, Tryz.call98, (compact_cut o (sortB (usedTo g.man g.man.edges.length)) σ hgs (by omega)).mono ?_⟩
    rintro e σ1 ⟨rfl, rfl, hgc⟩
    simp only [go_sem, ↓reduceIte, reduceCtorEq, zqa, zqb, zqc, zqd, zqe, zqf, zqg, zqh, zqi, zqj, zqk, zql, zqm]
    refine hK _ _ ?_; clear hK K
    refine Goes.ret hC Tryz.func70 (by simp [go_sem]) ?_
    simp only [go_sem, ↓reduceIte, reduceCtorEq, zqa, zqb, zqc, zqd, zqe, zqf, zqg, zqh, zqi, zqj, zqk, zql, zqm]
    have hu : usedTo g.man g.man.edges.length = g.man.edges.flatMap XEdge.needs := by unfold usedTo; rw [List.take_length]
    rw [hu] at hgc ⊢
    exact ⟨o, hgc, rfl, rfl⟩
/-- The files that no edge makes. -/
def sourcesL (g : XGr) : List ByteArray := kept (fun f => (lookL g.mks f).isSome) (usedL g.man)
theorem sources1_tests (g : XGr) (mb b1 : Nat) (σ : Store) (l : List ByteArray) (hm : sget mb σ = some (.mp (mkE g.mks))) (h1 : sget b1 σ = some (.arr 1 [g.d mb])) :
    Tests [.ptr b1 1 0 0] 97 (fun f => (lookL g.mks f).isSome) l σ := by
  refine ⟨Tryz.call97, fun f _ => ?_⟩
  unfold XGr.d XGr.cells at h1
  have hfd := mfind_mkE g.mks f
  have hlk := mkE_like g.mks f
  have hg1 := getD_nD (lookL g.mks f)
  have hg2 := some_nD (lookL g.mks f)
  refine ACalls.of_body Tryz.func97 rfl Tryz.ntmps97 (by simp) fun C hC => ?_
  refine Goes.seq ?_
  refine Goes.region [0, 1] fun K hK => ?_; simp (maxSteps := 4000000) only [go_sem, ↓reduceIte, reduceCtorEq, zqa, zqb, zqc, zqd, zqe, zqf, zqg, zqh, zqi, zqj, zqk, zql, zqm]
  refine hK _ _ ?_; clear hK K
  refine Goes.seq ?_
  refine Goes.region [0, 1] fun K hK => ?_; simp (maxSteps := 4000000) only [go_sem, ↓reduceIte, reduceCtorEq, zqa, zqb, zqc, zqd, zqe, zqf, zqg, zqh, zqi, zqj, zqk, zql, zqm, sD, h1, hm, hfd, hg1, hg2]
  refine ⟨⟨rfl, hlk⟩, ?_⟩
  refine hK _ _ ?_; clear hK K
  refine Goes.seq ?_
  refine Goes.region [5] fun K hK => ?_; simp (maxSteps := 4000000) only [go_sem, ↓reduceIte, reduceCtorEq, zqa, zqb, zqc, zqd, zqe, zqf, zqg, zqh, zqi, zqj, zqk, zql, zqm]
  refine hK _ _ ?_; clear hK K
  refine Goes.ret hC Tryz.func97 (by simp [go_sem]) ?_
  simp only [go_sem, ↓reduceIte, reduceCtorEq, zqa, zqb, zqc, zqd, zqe, zqf, zqg, zqh, zqi, zqj, zqk, zql, zqm]
theorem usedL_len (m : XMan) (hs : ∀ e ∈ m.edges, e.small) : (usedL m).length ≤ 30 * m.edges.length := by
  have h := usedTo_len m hs m.edges.length (Nat.le_refl _)
  unfold usedTo at h
  rw [List.take_length] at h
  have h2 := sortB_len (m.edges.flatMap XEdge.needs)
  unfold usedL compactB
  rw [List.length_map]
  have : (Lib.compact ((sortB (m.edges.flatMap XEdge.needs)).map bL)).length ≤ (sortB (m.edges.flatMap XEdge.needs)).length := by
    unfold Lib.compact Lib.compactUpTo
    rw [List.length_map]
    exact Nat.le_trans (List.length_filter_le ..) (by simp)
  omega
theorem sources_own (g : XGr) (mb : Nat) (σ : Store) (hm : sget mb σ = some (.mp (mkE g.mks))) (hl : g.man.edges.length < 2 ^ 20) (hs : ∀ e ∈ g.man.edges, e.small) :
    ACalls Tryz.prog 64 [g.d mb] σ (fun e σ' => ∃ o, GrD o 1 ((sourcesL g).map sD) σ ∧ e = .ret (.own o 1 (sourcesL g).length) ∧ σ' = cellsOf o 1 ((sourcesL g).map sD) ++ σ) := by
  have hul := usedL_len g.man hs
  have hgd : g.d mb = .elt (g.cells mb) := rfl
  rw [hgd]
  refine ACalls.of_body Tryz.func64 rfl Tryz.ntmps64 (by simp) fun C hC => ?_
  refine Goes.seq ?_
  refine Goes.region [0] fun K hK => ?_; simp (maxSteps := 4000000) only [go_sem, ↓reduceIte, reduceCtorEq, zqa, zqb, zqc, zqd, zqe, zqf, zqg, zqh, zqi, zqj, zqk, zql, zqm]
  intro b1 hb1
  refine hK _ _ ?_; clear hK K
  refine Goes.seq ?_
  refine Goes.seq ?_
  refine Goes.region [1] fun K hK => ?_; simp (maxSteps := 4000000) only [go_sem, ↓reduceIte, reduceCtorEq, zqa, zqb, zqc, zqd, zqe, zqf, zqg, zqh, zqi, zqj, zqk, zql, zqm]
  refine hK _ _ ?_; clear hK K
  refine Goes.condF rfl ?_
  refine Goes.skip ?_
  refine Goes.seq ?_
  refine Goes.region [1] fun K hK => ?_; simp (maxSteps := 4000000) only [go_sem, ↓reduceIte, reduceCtorEq, zqa, zqb, zqc, zqd, zqe, zqf, zqg, zqh, zqi, zqj, zqk, zql, zqm]
  refine ⟨_, Tryz.call70, (used_own g mb _ hl hs).mono ?_⟩
  rintro e σ1 ⟨o, hgr, rfl, rfl⟩
  simp only [go_sem, ↓reduceIte, reduceCtorEq, zqa, zqb, zqc, zqd, zqe, zqf, zqg, zqh, zqi, zqj, zqk, zql, zqm]
  refine ⟨_, Tryz.call71, (deleteFunc_strG o (usedL g.man) _ [.ptr b1 1 0 0] (fun f => (lookL g.mks f).isSome) _ (by omega) hgr (fun τ hle => sources1_tests g mb b1 τ _ (hle mb _ (by rw [sget_cons, if_neg (fun e => by rw [e, hb1] at hm; cases hm)]; exact hm)) (hle b1 _ (sget_self ..)))).mono ?_⟩
  rintro e σ1 ⟨rfl, rfl, hgr2⟩
  simp only [go_sem, ↓reduceIte, reduceCtorEq, zqa, zqb, zqc, zqd, zqe, zqf, zqg, zqh, zqi, zqj, zqk, zql, zqm]
  refine hK _ _ ?_; clear hK K
  have hdr := hgr2.drop hb1
  refine Goes.le (ELe.refl _) hdr.2 ?_
  refine Goes.ret hC Tryz.func64 (by simp [go_sem]) ?_
  simp only [go_sem, ↓reduceIte, reduceCtorEq, zqa, zqb, zqc, zqd, zqe, zqf, zqg, zqh, zqi, zqj, zqk, zql, zqm]
  exact ⟨o, hdr.1, rfl, rfl⟩
theorem sources_calls (g : XGr) (mb : Nat) (σ : Store) (hm : sget mb σ = some (.mp (mkE g.mks))) (hl : g.man.edges.length < 2 ^ 20) (hs : ∀ e ∈ g.man.edges, e.small) :
    ACalls Tryz.prog 64 [g.d mb] σ (fun e σ' => e = .ret (.slc ((sourcesL g).map sD)) ∧ σ' = σ) := by
  refine ACalls.stillIn (ACalls.pubOwnIn (sz := 1) (fun b hb => spub_mk b 1 mb _ g.mks hb) ?_) (SLe.cons hm (SLe.nil _))
  refine (sources_own g mb [(mb, .mp (mkE g.mks))] (sget_self ..) hl hs).mono ?_
  rintro e σ' ⟨o, hgr, rfl, rfl⟩
  exact ⟨o, hgr, by rw [List.length_map], rfl⟩
/-- The files that edges make, in order. -/
def outsL (g : XGr) : List ByteArray := sortB (g.mks.map (·.1))
theorem outs_own (g : XGr) (mb : Nat) (σ : Store) (hm : sget mb σ = some (.mp (mkE g.mks))) (hnd : (g.mks.map (·.1)).Nodup) (hl : g.mks.length < 2 ^ 30) (hB : ∀ p ∈ g.mks, p.1.size ≤ maxLen) :
    ACalls Tryz.prog 63 [g.d mb] σ (fun e σ' => ∃ o, GrD o 1 ((outsL g).map sD) σ ∧ e = .ret (.own o 1 ((outsL g).map sD).length) ∧ σ' = cellsOf o 1 ((outsL g).map sD) ++ σ) := by
  unfold XGr.d XGr.cells
  refine ACalls.of_body Tryz.func63 rfl Tryz.ntmps63 (by simp) fun C hC => ?_
  refine Goes.seq ?_
  refine Goes.region [0] fun K hK => ?_; simp (maxSteps := 4000000) only [go_sem, ↓reduceIte, reduceCtorEq, zqa, zqb, zqc, zqd, zqe, zqf, zqg, zqh, zqi, zqj, zqk, zql, zqm]
  refine hK _ _ ?_; clear hK K
  refine Goes.seq ?_
  refine Goes.seq ?_
  refine Goes.region [0] fun K hK => ?_; simp (maxSteps := 4000000) only [go_sem, ↓reduceIte, reduceCtorEq, zqa, zqb, zqc, zqd, zqe, zqf, zqg, zqh, zqi, zqj, zqk, zql, zqm]
  refine hK _ _ ?_; clear hK K
  refine Goes.condF rfl ?_
  refine Goes.skip ?_
  refine Goes.seq ?_
  refine Goes.region [0] fun K hK => ?_; simp (maxSteps := 4000000) only [go_sem, ↓reduceIte, reduceCtorEq, zqa, zqb, zqc, zqd, zqe, zqf, zqg, zqh, zqi, zqj, zqk, zql, zqm]
  refine ⟨_, Tryz.call96, (keysS_calls mb _).mono ?_⟩
  rintro e σ1 ⟨bk, hbk, rfl, rfl⟩
  simp only [go_sem, ↓reduceIte, reduceCtorEq, zqa, zqb, zqc, zqd, zqe, zqf, zqg, zqh, zqi, zqj, zqk, zql, zqm]
  refine ⟨_, Tryz.call95, (sortedS_own bk mb g.mks _ (sget_self ..) (by rw [sget_cons, if_neg (fun e => by rw [e, hbk] at hm; cases hm)]; exact hm) hnd hl hB).mono ?_⟩
  rintro e σ1 ⟨o, xs, rfl, hgr, rfl, rfl⟩
  simp only [go_sem, ↓reduceIte, reduceCtorEq, zqa, zqb, zqc, zqd, zqe, zqf, zqg, zqh, zqi, zqj, zqk, zql, zqm]
  refine hK _ _ ?_; clear hK K
  rw [encS2] at hgr ⊢
  have hdr := hgr.drop hbk
  refine Goes.le (ELe.refl _) hdr.2 ?_
  refine Goes.ret hC Tryz.func63 (by simp [go_sem]) ?_
  simp only [go_sem, ↓reduceIte, reduceCtorEq, zqa, zqb, zqc, zqd, zqe, zqf, zqg, zqh, zqi, zqj, zqk, zql, zqm]
  exact ⟨o, hdr.1, rfl, rfl⟩
theorem outs_calls (g : XGr) (mb : Nat) (σ : Store) (hm : sget mb σ = some (.mp (mkE g.mks))) (hnd : (g.mks.map (·.1)).Nodup) (hl : g.mks.length < 2 ^ 30) (hB : ∀ p ∈ g.mks, p.1.size ≤ maxLen) :
    ACalls Tryz.prog 63 [g.d mb] σ (fun e σ' => e = .ret (.slc ((outsL g).map sD)) ∧ σ' = σ) :=
  ACalls.stillIn (ACalls.pubOwnIn (fun b hb => spub_mk b 1 mb _ g.mks hb) (outs_own g mb [(mb, .mp (mkE g.mks))] (sget_self ..) hnd hl hB)) (SLe.cons hm (SLe.nil _))
end Go.Ab.S16
