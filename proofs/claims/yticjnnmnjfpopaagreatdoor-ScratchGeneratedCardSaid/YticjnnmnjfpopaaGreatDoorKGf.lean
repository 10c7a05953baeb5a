/- A part of a proof about the given program: the abstract machine, what functions compute, laid in few texts. -/
import Derived.Test.YticjnnmnjfpopaaGreatDoorKGe
import Derived.Laws.BitsAllLaws
open Nat renaming reduceEqDiff → zqa, reduceBEq → zqb, reduceLT → zqe, reduceLeDiff → zqf, reduceAdd → zqg, reduceSub → zqh, reduceMul → zqi
open Int renaming reduceBEq → zqc, reduceBNe → zqd, reduceToNat → zqj, reduceEq → zqk, reduceLT → zql, reduceLE → zqm
set_option linter.unusedSimpArgs false
set_option linter.unusedVariables false
set_option linter.constructorNameAsVariable false
namespace Go.Ab.S16
open Go Go.Proofs Go.RowKit Go.Maps Go.Sort Go.Shelf
instance : LawfulBEq ByteArray where
  eq_of_beq := fun {a b} h => by
    cases a with | mk a => cases b with | mk b =>
    have h2 : (a == b) = true := h
    rw [eq_of_beq h2]
  rfl := fun {a} => by
    cases a with | mk a =>
    show (a == a) = true
    exact beq_self_eq_true a
theorem isNaN1_calls (s : ByteArray) (σ : Store) : ACalls Tryz.prog 122 [.v (.string s)] σ (fun e σ' => e = .ret (.v (.bool false)) ∧ σ' = σ) := by
  refine ACalls.of_body Tryz.func122 rfl Tryz.ntmps122 (by simp) fun C hC => ?_
  refine Goes.seq ?_
  refine Goes.region [0] fun K hK => ?_; simp (maxSteps := 4000000) only [go_sem, ↓reduceIte, reduceCtorEq, zqa, zqb, zqc, zqd, zqe, zqf, zqg, zqh, zqi, zqj, zqk, zql, zqm]
  refine hK _ _ ?_; clear hK K
  refine Goes.seq ?_
  refine Goes.region [0] fun K hK => ?_; simp (maxSteps := 4000000) only [go_sem, ↓reduceIte, reduceCtorEq, zqa, zqb, zqc, zqd, zqe, zqf, zqg, zqh, zqi, zqj, zqk, zql, zqm]
  refine hK _ _ ?_; clear hK K
  refine Goes.ret hC Tryz.func122 (by simp [go_sem]) ?_
  simp only [go_sem, ↓reduceIte, reduceCtorEq, zqa, zqb, zqc, zqd, zqe, zqf, zqg, zqh, zqi, zqj, zqk, zql, zqm]
  simp
theorem isNaN2_calls (s : ByteArray) (σ : Store) : ACalls Tryz.prog 93 [.v (.string s)] σ (fun e σ' => e = .ret (.v (.bool false)) ∧ σ' = σ) := by
  refine ACalls.of_body Tryz.func93 rfl Tryz.ntmps93 (by simp) fun C hC => ?_
  refine Goes.seq ?_
  refine Goes.region [0] fun K hK => ?_; simp (maxSteps := 4000000) only [go_sem, ↓reduceIte, reduceCtorEq, zqa, zqb, zqc, zqd, zqe, zqf, zqg, zqh, zqi, zqj, zqk, zql, zqm]
  refine hK _ _ ?_; clear hK K
  refine Goes.seq ?_
  refine Goes.region [0] fun K hK => ?_; simp (maxSteps := 4000000) only [go_sem, ↓reduceIte, reduceCtorEq, zqa, zqb, zqc, zqd, zqe, zqf, zqg, zqh, zqi, zqj, zqk, zql, zqm]
  refine hK _ _ ?_; clear hK K
  refine Goes.ret hC Tryz.func93 (by simp [go_sem]) ?_
  simp only [go_sem, ↓reduceIte, reduceCtorEq, zqa, zqb, zqc, zqd, zqe, zqf, zqg, zqh, zqi, zqj, zqk, zql, zqm]
  simp
theorem less_calls (a b : ByteArray) (σ : Store) : ACalls Tryz.prog 92 [.v (.string a), .v (.string b)] σ (fun e σ' => e = .ret (.v (.bool (decide (bL a < bL b)))) ∧ σ' = σ) := by
  refine ACalls.of_body Tryz.func92 rfl Tryz.ntmps92 (by simp) fun C hC => ?_
  refine Goes.seq ?_
  refine Goes.region [0, 1] fun K hK => ?_; simp (maxSteps := 4000000) only [go_sem, ↓reduceIte, reduceCtorEq, zqa, zqb, zqc, zqd, zqe, zqf, zqg, zqh, zqi, zqj, zqk, zql, zqm]
  refine hK _ _ ?_; clear hK K
  refine Goes.seq ?_
  refine Goes.region [0, 1] fun K hK => ?_; simp (maxSteps := 4000000) only [go_sem, ↓reduceIte, reduceCtorEq, zqa, zqb, zqc, zqd, zqe, zqf, zqg, zqh, zqi, zqj, zqk, zql, zqm]
  refine ⟨_, Tryz.call122, (isNaN1_calls a _).mono ?_⟩
  rintro e σ1 ⟨rfl, rfl⟩
  simp only [go_sem, ↓reduceIte, reduceCtorEq, zqa, zqb, zqc, zqd, zqe, zqf, zqg, zqh, zqi, zqj, zqk, zql, zqm]
  refine hK _ _ ?_; clear hK K
  refine Goes.ret hC Tryz.func92 (by simp [go_sem]) ?_
  simp only [go_sem, ↓reduceIte, reduceCtorEq, zqa, zqb, zqc, zqd, zqe, zqf, zqg, zqh, zqi, zqj, zqk, zql, zqm]
  rw [Go.Proofs.bytesLess_eq, tl_data, tl_data]
  rfl
theorem half_eq (n : Nat) (h : n < 2 ^ 50) : IntKind.i64.wrap ((IntKind.u64.wrap (IntKind.i64.wrap (n : Int))).fdiv 2) = ((n / 2 : Nat) : Int) := by
  have h1 : IntKind.i64.wrap (n : Int) = (n : Int) := by rw [IntKind.wrap_i64]; omega
  have h2 : IntKind.u64.wrap (n : Int) = (n : Int) := by rw [IntKind.wrap_u64]; omega
  rw [h1, h2, Int.fdiv_eq_ediv_of_nonneg _ (by omega), IntKind.wrap_i64]
  omega
theorem shr1 (xo yo : Operand) (a : Int) : aBin Tryz.prog .shr 146 xo yo (.v (.int .u64 a)) (.v (.int .u64 1)) = .val True (.v (.int .u64 (a.fdiv 2))) := by
  have := bin_shr (P := Tryz.prog) (T := 146) (x := xo) (y := yo) .u64 .u64 a 1
  exact this
theorem search_calls (l : List ByteArray) (x : ByteArray) (σ : Store) (hl : l.length < 2 ^ 40) (hs : (l.map bL).Pairwise (· ≤ ·)) :
    ACalls Tryz.prog 60 [.slc (l.map sD), .v (.string x)] σ (fun e σ' => (∃ i : Nat, e = .ret (.tup [.v (.int .i64 (i : Int)), .v (.bool (l.contains x))])) ∧ σ' = σ) := by
  have hll : (l.map sD).length = l.length := List.length_map ..
  refine ACalls.of_body Tryz.func60 rfl Tryz.ntmps60 (by simp) fun C hC => ?_
  refine Goes.seq ?_
  refine Goes.region [0, 1] fun K hK => ?_; simp (maxSteps := 4000000) only [go_sem, ↓reduceIte, reduceCtorEq, zqa, zqb, zqc, zqd, zqe, zqf, zqg, zqh, zqi, zqj, zqk, zql, zqm]
  refine hK _ _ ?_; clear hK K
  refine Goes.seq ?_
  refine Goes.region [0, 1] fun K hK => ?_; simp (maxSteps := 4000000) only [go_sem, ↓reduceIte, reduceCtorEq, zqa, zqb, zqc, zqd, zqe, zqf, zqg, zqh, zqi, zqj, zqk, zql, zqm, hll]
  refine hK _ _ ?_; clear hK K
  refine Goes.seq ?_
  refine Goes.region [0, 1, 6] fun K hK => ?_; simp (maxSteps := 4000000) only [go_sem, ↓reduceIte, reduceCtorEq, zqa, zqb, zqc, zqd, zqe, zqf, zqg, zqh, zqi, zqj, zqk, zql, zqm]
  refine hK _ _ ?_; clear hK K
  refine Goes.seq ?_
  refine Goes.block ?_
  refine Goes.rebase [0, 1, 6, 7, 8] ?_
  simp only [go_sem, ↓reduceIte, reduceCtorEq, zqa, zqb, zqc, zqd, zqe, zqf, zqg, zqh, zqi, zqj, zqk, zql, zqm]
  refine Goes.while (fun (q : Nat × Nat) env' σ'' => (q.1 ≤ q.2 ∧ q.2 ≤ l.length ∧ (∀ j (h : j < l.length), j < q.1 → bL l[j] < bL x) ∧ (∀ j (h : j < l.length), q.2 ≤ j → ¬ bL l[j] < bL x)) ∧ env' = [(0, .slc (l.map sD)), (1, .v (.string x)), (6, .v (.int .i64 (l.length : Int))), (7, .v (.int .i64 (q.1 : Int))), (8, .v (.int .i64 (q.2 : Int)))] ∧ σ = σ'') (fun (q : Nat × Nat) => q.2 - q.1) (0, l.length) ⟨⟨by omega, by omega, by omega, by omega⟩, rfl, rfl⟩ ?_
  rintro ⟨lo, hi⟩ env' σ'' ⟨⟨hlh, hhn, hlo, hhi⟩, rfl, rfl⟩ ih
  have ih1 := ih
  dsimp only at hlh hhn hlo hhi ⊢
  have hsum : (lo : Int) + (hi : Int) = ((lo + hi : Nat) : Int) := by omega
  have hhalf := half_eq (lo + hi) (by omega)
  refine Goes.seq ?_
  refine Goes.seq ?_
  refine Goes.region [0, 1, 6, 7, 8] fun K hK => ?_; simp (maxSteps := 4000000) only [go_sem, ↓reduceIte, reduceCtorEq, zqa, zqb, zqc, zqd, zqe, zqf, zqg, zqh, zqi, zqj, zqk, zql, zqm]
  refine hK _ _ ?_; clear hK K
  refine Goes.cond rfl (fun h15 => ?_) (fun h15 => ?_)
  · have hlt : lo < hi := by simpa using h15
    have hmn : (lo + hi) / 2 < l.length := by omega
    have hg := getD_map_lt sD l ((lo + hi) / 2) hmn
    rw [sD] at hg
    have hi0 : (0 : Int) ≤ (((lo + hi) / 2 : Nat) : Int) := by omega
    have hi1 : (((lo + hi) / 2 : Nat) : Int) < ((l.map sD).length : Int) := by omega
    refine Goes.skip ?_
    refine Goes.block ?_
    refine Goes.seq ?_
    refine Goes.region [0, 1, 6, 7, 8] fun K hK => ?_; simp (maxSteps := 4000000) only [go_sem, ↓reduceIte, reduceCtorEq, zqa, zqb, zqc, zqd, zqe, zqf, zqg, zqh, zqi, zqj, zqk, zql, zqm, shr1, hsum, hhalf]
    refine hK _ _ ?_; clear hK K
    refine Goes.seq ?_
    refine Goes.region [0, 1, 6, 7, 8, 9] fun K hK => ?_; simp (maxSteps := 4000000) only [go_sem, ↓reduceIte, reduceCtorEq, zqa, zqb, zqc, zqd, zqe, zqf, zqg, zqh, zqi, zqj, zqk, zql, zqm, hg, hi0, hi1]
    refine ⟨_, Tryz.call92, (less_calls l[(lo + hi) / 2] x _).mono ?_⟩
    rintro e σ1 ⟨rfl, rfl⟩
    simp only [go_sem, ↓reduceIte, reduceCtorEq, zqa, zqb, zqc, zqd, zqe, zqf, zqg, zqh, zqi, zqj, zqk, zql, zqm]
    refine hK _ _ ?_; clear hK K
    refine Goes.cond rfl (fun h27 => ?_) (fun h27 => ?_)
    · refine Goes.region [0, 1, 6, 8, 9] fun K hK => ?_; simp (maxSteps := 4000000) only [go_sem, ↓reduceIte, reduceCtorEq, zqa, zqb, zqc, zqd, zqe, zqf, zqg, zqh, zqi, zqj, zqk, zql, zqm]
      refine hK _ _ ?_; clear hK K
      refine Goes.inBlock ?_
      refine Goes.rebase [0, 1, 6, 7, 8] ?_
      simp only [go_sem, ↓reduceIte, reduceCtorEq, zqa, zqb, zqc, zqd, zqe, zqf, zqg, zqh, zqi, zqj, zqk, zql, zqm]
      rw [wrap_succ _ (by omega)]
      refine ih ((lo + hi) / 2 + 1, hi) _ _ ⟨⟨by dsimp only; omega, hhn, fun j hj hj2 => ?_, hhi⟩, rfl, rfl⟩ (by dsimp only; omega)
      by_cases hjm : j = (lo + hi) / 2
      · subst hjm; simpa using h27
      · have h1 := List.pairwise_iff_getElem.1 hs j ((lo + hi) / 2) (by simpa using hj) (by simpa using hmn) (by dsimp only at hj2; omega)
        simp only [List.getElem_map] at h1
        exact List.lt_of_le_of_lt h1 (by simpa using h27)
    · refine Goes.region [0, 1, 6, 7, 9] fun K hK => ?_; simp (maxSteps := 4000000) only [go_sem, ↓reduceIte, reduceCtorEq, zqa, zqb, zqc, zqd, zqe, zqf, zqg, zqh, zqi, zqj, zqk, zql, zqm]
      refine hK _ _ ?_; clear hK K
      refine Goes.inBlock ?_
      refine Goes.rebase [0, 1, 6, 7, 8] ?_
      simp only [go_sem, ↓reduceIte, reduceCtorEq, zqa, zqb, zqc, zqd, zqe, zqf, zqg, zqh, zqi, zqj, zqk, zql, zqm]
      refine ih (lo, (lo + hi) / 2) _ _ ⟨⟨by dsimp only; omega, by dsimp only; omega, hlo, fun j hj hj2 => ?_⟩, rfl, rfl⟩ (by dsimp only; omega)
      have h27' : ¬ bL l[(lo + hi) / 2] < bL x := by simpa using h27
      by_cases hjm : j = (lo + hi) / 2
      · subst hjm; exact h27'
      · have h1 := List.pairwise_iff_getElem.1 hs ((lo + hi) / 2) j (by simpa using hmn) (by simpa using hj) (by dsimp only at hj2; omega)
        simp only [List.getElem_map] at h1
        exact fun h => h27' (List.lt_of_le_of_lt h1 h)
  · have hle : hi = lo := by simp at h15; omega
    subst hle
    refine Goes.exit rfl ?_
    refine Goes.seq ?_
    by_cases hh : hi < l.length
    by_cases hq : l[hi] = x
    · have hd : decide ((hi : Int) < (l.length : Int)) = true := by simp; omega
      have hg := getD_map_lt sD l hi hh
      rw [sD] at hg
      have hi0 : (0 : Int) ≤ (hi : Int) := by omega
      have hi1 : (hi : Int) < (l.length : Int) := by omega
      have hbq : (l[hi].toList == x.toList) = true := by rw [hq]; simp
      refine Goes.region [0, 1, 6, 7] fun K hK => ?_; simp (maxSteps := 4000000) only [go_sem, ↓reduceIte, reduceCtorEq, zqa, zqb, zqc, zqd, zqe, zqf, zqg, zqh, zqi, zqj, zqk, zql, zqm, hll, hd, hg, hi0, hi1, hbq]
      refine hK _ _ ?_; clear hK K
      refine Goes.ret hC Tryz.func60 (by simp [go_sem]) ?_
      simp only [go_sem, ↓reduceIte, reduceCtorEq, zqa, zqb, zqc, zqd, zqe, zqf, zqg, zqh, zqi, zqj, zqk, zql, zqm]
      first | refine ⟨⟨hi, ?_⟩, rfl⟩ | refine ⟨hi, ?_⟩
      rw [show l.contains x = true from List.contains_iff_mem.2 (hq ▸ List.getElem_mem hh)]
    · have hd : decide ((hi : Int) < (l.length : Int)) = true := by simp; omega
      have hg := getD_map_lt sD l hi hh
      rw [sD] at hg
      have hi0 : (0 : Int) ≤ (hi : Int) := by omega
      have hi1 : (hi : Int) < (l.length : Int) := by omega
      have hbq : (l[hi].toList == x.toList) = false := by
        rw [tl_data, tl_data]
        exact beq_false_of_ne fun e => hq (by rw [← lB_bL l[hi], ← lB_bL x]; exact congrArg lB e)
      refine Goes.region [0, 1, 6, 7] fun K hK => ?_; simp (maxSteps := 4000000) only [go_sem, ↓reduceIte, reduceCtorEq, zqa, zqb, zqc, zqd, zqe, zqf, zqg, zqh, zqi, zqj, zqk, zql, zqm, hll, hd, hg, hi0, hi1, hbq]
      refine ⟨_, Tryz.call93, (isNaN2_calls l[hi] _).mono ?_⟩
      rintro e σ1 ⟨rfl, rfl⟩
      simp only [go_sem, ↓reduceIte, reduceCtorEq, zqa, zqb, zqc, zqd, zqe, zqf, zqg, zqh, zqi, zqj, zqk, zql, zqm]
      refine hK _ _ ?_; clear hK K
      refine Goes.ret hC Tryz.func60 (by simp [go_sem]) ?_
      simp only [go_sem, ↓reduceIte, reduceCtorEq, zqa, zqb, zqc, zqd, zqe, zqf, zqg, zqh, zqi, zqj, zqk, zql, zqm]
      first | refine ⟨⟨hi, ?_⟩, rfl⟩ | refine ⟨hi, ?_⟩
      have hnc : l.contains x = false := by
        rw [Bool.eq_false_iff]
        intro hc
        obtain ⟨j, hj, rfl⟩ := List.getElem_of_mem (List.contains_iff_mem.1 hc)
        rcases Nat.lt_or_ge j hi with h | h
        · exact List.lt_irrefl _ (hlo j hj h)
        · have hne : j ≠ hi := fun e => hq (by subst e; rfl)
          have h1 := List.pairwise_iff_getElem.1 hs hi j (by simpa using hh) (by simpa using hj) (by omega)
          simp only [List.getElem_map] at h1
          have h2 := hhi hi hh (Nat.le_refl _)
          have h3 : bL l[j] ≤ bL l[hi] := List.not_lt.1 h2
          have h4 := List.le_antisymm h1 h3
          exact hq (by rw [← lB_bL l[hi], ← lB_bL l[j], h4])
      rw [hnc]
    · have hd : decide ((hi : Int) < (l.length : Int)) = false := by simp; omega
      refine Goes.region [0, 1, 6, 7] fun K hK => ?_; simp (maxSteps := 4000000) only [go_sem, ↓reduceIte, reduceCtorEq, zqa, zqb, zqc, zqd, zqe, zqf, zqg, zqh, zqi, zqj, zqk, zql, zqm, hll, hd]
      refine hK _ _ ?_; clear hK K
      refine Goes.ret hC Tryz.func60 (by simp [go_sem]) ?_
      simp only [go_sem, ↓reduceIte, reduceCtorEq, zqa, zqb, zqc, zqd, zqe, zqf, zqg, zqh, zqi, zqj, zqk, zql, zqm]
      first | refine ⟨⟨hi, ?_⟩, rfl⟩ | refine ⟨hi, ?_⟩
      have hnc : l.contains x = false := by
        rw [Bool.eq_false_iff]
        intro hc
        obtain ⟨j, hj, rfl⟩ := List.getElem_of_mem (List.contains_iff_mem.1 hc)
        exact List.lt_irrefl _ (hlo j hj (by omega))
      rw [hnc]
end Go.Ab.S16
set_option linter.unusedSimpArgs false
set_option linter.unusedVariables false
set_option linter.constructorNameAsVariable false
namespace Go.Ab.S16
open Go Go.Proofs Go.RowKit Go.Maps Go.Sort Go.Shelf
theorem used_calls (g : XGr) (mb : Nat) (σ : Store) (hl : g.man.edges.length < 2 ^ 20) (hs : ∀ e ∈ g.man.edges, e.small) :
    ACalls Tryz.prog 70 [g.d mb] σ (fun e σ' => e = .ret (.slc ((usedL g.man).map sD)) ∧ σ' = σ) := by
  refine ACalls.pubOwn (sz := 1) ((used_own g mb [] hl hs).mono ?_) σ
  rintro e σ' ⟨o, hgr, rfl, rfl⟩
  exact ⟨o, hgr, by rw [List.length_map], rfl⟩
theorem sortB_pairwise (l : List ByteArray) : ((sortB l).map bL).Pairwise (· ≤ ·) := by
  have h := isort_sorted leB_tr leB_tot (l.map bL)
  have e1 : (sortB l).map bL = isort leB (l.map bL) := by
    unfold sortB
    rw [List.map_map]
    exact (List.map_congr_left fun x _ => bL_lB x).trans (List.map_id _)
  rw [e1]
  exact h.imp fun {a b} hab => (leB_iff a b).1 hab
theorem sortB_mem (l : List ByteArray) (x : ByteArray) : x ∈ sortB l ↔ x ∈ l := by
  unfold sortB
  rw [List.mem_map]
  constructor
  · rintro ⟨y, hy, rfl⟩
    have := (isort_perm (le := leB) (l.map bL)).mem_iff.1 hy
    obtain ⟨z, hz, rfl⟩ := List.mem_map.1 this
    rw [lB_bL]; exact hz
  · intro h
    exact ⟨bL x, (isort_perm (le := leB) (l.map bL)).mem_iff.2 (List.mem_map_of_mem h), lB_bL x⟩
theorem compact_sub {α : Type} [DecidableEq α] [Inhabited α] (zs : List α) : (Lib.compact zs).Sublist zs := by
  unfold Lib.compact Lib.compactUpTo
  have h1 : ((List.range zs.length).filter (Lib.keeps zs.toArray)).Sublist (List.range zs.length) := List.filter_sublist
  have h2 := h1.map (fun j => zs.toArray[j]!)
  have h3 : (List.range zs.length).map (fun j => zs.toArray[j]!) = zs := by
    apply List.ext_getElem
    · simp
    · intro i h4 h5
      simp at h4
      simp [h4]
  rw [h3] at h2
  exact h2
theorem compactB_map (l : List ByteArray) : (compactB l).map bL = Lib.compact (l.map bL) := by
  unfold compactB
  rw [List.map_map]
  exact (List.map_congr_left fun x _ => bL_lB x).trans (List.map_id _)
theorem usedL_sorted (m : XMan) : ((usedL m).map bL).Pairwise (· ≤ ·) := by
  unfold usedL
  rw [compactB_map]
  exact (sortB_pairwise _).sublist (compact_sub _)
theorem kept_sorted (p : ByteArray → Bool) (l : List ByteArray) (h : (l.map bL).Pairwise (· ≤ ·)) : ((kept p l).map bL).Pairwise (· ≤ ·) := by
  unfold kept
  exact h.sublist (List.filter_sublist.map bL)
/-- What an edge makes and no edge needs: or what the manifest names. -/
def outsTo (m : XMan) (i : Nat) : List ByteArray := (m.edges.take i).flatMap XEdge.outs
def targetsL (g : XGr) : List ByteArray := if g.man.defs.length > 0 then g.man.defs else kept (fun f => (usedL g.man).contains f) (g.man.edges.flatMap XEdge.outs)
theorem outsTo_succ (m : XMan) (i : Nat) (h : i < m.edges.length) : outsTo m (i + 1) = outsTo m i ++ m.edges[i].outs := by
  unfold outsTo
  rw [List.take_succ_eq_append_getElem h, List.flatMap_append]
  simp
theorem outsTo_len (m : XMan) (hs : ∀ e ∈ m.edges, e.small) : ∀ i, i ≤ m.edges.length → (outsTo m i).length ≤ 10 * i
  | 0, _ => by simp [outsTo]
  | i + 1, h => by
    have h1 := outsTo_len m hs i (by omega)
    have h2 := (hs m.edges[i] (List.getElem_mem (by omega))).outs
    rw [outsTo_succ m i (by omega), List.length_append]; omega
theorem targets1_tests (u : List ByteArray) (b1 : Nat) (σ : Store) (l : List ByteArray) (h1 : sget b1 σ = some (.arr 1 [.slc (u.map sD)])) (hl : u.length < 2 ^ 40) (hu : (u.map bL).Pairwise (· ≤ ·)) :
    Tests [.ptr b1 1 0 0] 72 (fun f => u.contains f) l σ := by
  refine ⟨Tryz.call72, fun f _ => ?_⟩
  refine ACalls.of_body Tryz.func72 rfl Tryz.ntmps72 (by simp) fun C hC => ?_
  refine Goes.seq ?_
  refine Goes.region [0, 1] fun K hK => ?_; simp (maxSteps := 4000000) only [go_sem, ↓reduceIte, reduceCtorEq, zqa, zqb, zqc, zqd, zqe, zqf, zqg, zqh, zqi, zqj, zqk, zql, zqm]
  refine hK _ _ ?_; clear hK K
  refine Goes.seq ?_
  refine Goes.region [0, 1] fun K hK => ?_; simp (maxSteps := 4000000) only [go_sem, ↓reduceIte, reduceCtorEq, zqa, zqb, zqc, zqd, zqe, zqf, zqg, zqh, zqi, zqj, zqk, zql, zqm, sD, h1]
  refine ⟨_, Tryz.call60, (search_calls u f σ hl hu).mono ?_⟩
  rintro e σ1 ⟨⟨ix, rfl⟩, rfl⟩
  simp only [go_sem, ↓reduceIte, reduceCtorEq, zqa, zqb, zqc, zqd, zqe, zqf, zqg, zqh, zqi, zqj, zqk, zql, zqm]
  refine hK _ _ ?_; clear hK K
  refine Goes.seq ?_
  refine Goes.region [5] fun K hK => ?_; simp (maxSteps := 4000000) only [go_sem, ↓reduceIte, reduceCtorEq, zqa, zqb, zqc, zqd, zqe, zqf, zqg, zqh, zqi, zqj, zqk, zql, zqm]
  refine hK _ _ ?_; clear hK K
  refine Goes.ret hC Tryz.func72 (by simp [go_sem]) ?_
  simp only [go_sem, ↓reduceIte, reduceCtorEq, zqa, zqb, zqc, zqd, zqe, zqf, zqg, zqh, zqi, zqj, zqk, zql, zqm]
theorem targets_own (g : XGr) (mb : Nat) (σ : Store) (hl : g.man.edges.length < 2 ^ 20) (hs : ∀ e ∈ g.man.edges, e.small) (hd : g.man.defs.length < 2 ^ 20) :
    ACalls Tryz.prog 30 [g.d mb] σ (fun e σ' => (e = .ret (.slc ((targetsL g).map sD)) ∧ σ' = σ) ∨ ∃ o, GrD o 1 ((targetsL g).map sD) σ ∧ e = .ret (.own o 1 (targetsL g).length) ∧ σ' = cellsOf o 1 ((targetsL g).map sD) ++ σ) := by
  have hul := usedL_len g.man hs
  unfold XGr.d XGr.cells
  have hll : (g.man.edges.map XEdge.d).length = g.man.edges.length := List.length_map ..
  have hdl : (g.man.defs.map sD).length = g.man.defs.length := List.length_map ..
  refine ACalls.of_body Tryz.func30 rfl Tryz.ntmps30 (by simp) fun C hC => ?_
  refine Goes.seq ?_
  refine Goes.region [0] fun K hK => ?_; simp (maxSteps := 4000000) only [go_sem, ↓reduceIte, reduceCtorEq, zqa, zqb, zqc, zqd, zqe, zqf, zqg, zqh, zqi, zqj, zqk, zql, zqm]
  refine hK _ _ ?_; clear hK K
  refine Goes.seq ?_
  refine Goes.seq ?_
  refine Goes.region [0] fun K hK => ?_; simp (maxSteps := 4000000) only [go_sem, ↓reduceIte, reduceCtorEq, zqa, zqb, zqc, zqd, zqe, zqf, zqg, zqh, zqi, zqj, zqk, zql, zqm]
  refine hK _ _ ?_; clear hK K
  refine Goes.condF rfl ?_
  refine Goes.skip ?_
  refine Goes.seq ?_
  refine Goes.seq ?_
  refine Goes.region [0] fun K hK => ?_; simp (maxSteps := 4000000) only [go_sem, ↓reduceIte, reduceCtorEq, zqa, zqb, zqc, zqd, zqe, zqf, zqg, zqh, zqi, zqj, zqk, zql, zqm, hdl]
  refine hK _ _ ?_; clear hK K
  refine Goes.cond rfl (fun h15 => ?_) (fun h15 => ?_)
  · have hdp : g.man.defs.length > 0 := by simpa using h15
    refine Goes.seq ?_
    refine Goes.region [0] fun K hK => ?_; simp (maxSteps := 4000000) only [go_sem, ↓reduceIte, reduceCtorEq, zqa, zqb, zqc, zqd, zqe, zqf, zqg, zqh, zqi, zqj, zqk, zql, zqm]
    refine ⟨_, Tryz.call52, (clone_str (g.man.defs.map sD) _ (plain_sD _) (by rw [List.length_map]; omega)).mono ?_⟩
    rintro e σ1 ⟨rfl, rfl⟩
    simp only [go_sem, ↓reduceIte, reduceCtorEq, zqa, zqb, zqc, zqd, zqe, zqf, zqg, zqh, zqi, zqj, zqk, zql, zqm]
    refine hK _ _ ?_; clear hK K
    refine Goes.ret hC Tryz.func30 (by simp [go_sem]) ?_
    simp only [go_sem, ↓reduceIte, reduceCtorEq, zqa, zqb, zqc, zqd, zqe, zqf, zqg, zqh, zqi, zqj, zqk, zql, zqm]
    exact .inl (by unfold targetsL; rw [if_pos hdp])
  · have hdp : ¬ g.man.defs.length > 0 := by simpa using h15
    refine Goes.skip ?_
    refine Goes.seq ?_
    refine Goes.region [0] fun K hK => ?_; simp (maxSteps := 4000000) only [go_sem, ↓reduceIte, reduceCtorEq, zqa, zqb, zqc, zqd, zqe, zqf, zqg, zqh, zqi, zqj, zqk, zql, zqm]
    refine ⟨_, Tryz.call70, (used_calls g mb _ hl hs).mono ?_⟩
    rintro e σ1 ⟨rfl, rfl⟩
    simp only [go_sem, ↓reduceIte, reduceCtorEq, zqa, zqb, zqc, zqd, zqe, zqf, zqg, zqh, zqi, zqj, zqk, zql, zqm]
    intro b3 hb3
    refine hK _ _ ?_; clear hK K
    refine Goes.seq ?_
    refine Goes.region [0, 3] fun K hK => ?_; simp (maxSteps := 4000000) only [go_sem, ↓reduceIte, reduceCtorEq, zqa, zqb, zqc, zqd, zqe, zqf, zqg, zqh, zqi, zqj, zqk, zql, zqm]
    refine hK _ _ ?_; clear hK K
    refine Goes.seq ?_
    refine Goes.seq ?_
    refine Goes.region [0, 3, 4] fun K hK => ?_; simp (maxSteps := 4000000) only [go_sem, ↓reduceIte, reduceCtorEq, zqa, zqb, zqc, zqd, zqe, zqf, zqg, zqh, zqi, zqj, zqk, zql, zqm, hll]
    refine hK _ _ ?_; clear hK K
    refine Goes.block ?_
    refine Goes.nilOwn 4 1 rfl ?_
    refine Goes.rebase [3, 4, 28, 29, 30] ?_
    simp only [go_sem, ↓reduceIte, reduceCtorEq, zqa, zqb, zqc, zqd, zqe, zqf, zqg, zqh, zqi, zqj, zqk, zql, zqm]
    refine Goes.while (fun (i : Nat) env' σ'' => ∃ o : Option Nat, (i ≤ g.man.edges.length ∧ GrD o 1 ((outsTo g.man i).map sD) ((b3, .arr 1 [.slc ((usedL g.man).map sD)]) :: σ1)) ∧ env' = [(3, .ptr b3 1 0 0), (4, .own o 1 (outsTo g.man i).length), (28, .slc (g.man.edges.map XEdge.d)), (29, .v (.int .i64 (g.man.edges.length : Int))), (30, .v (.int .i64 (i : Int)))] ∧ σ'' = cellsOf o 1 ((outsTo g.man i).map sD) ++ (b3, .arr 1 [.slc ((usedL g.man).map sD)]) :: σ1) (fun (i : Nat) => g.man.edges.length - i) 0 ⟨none, ⟨by omega, GrD.nil _ _⟩, rfl, rfl⟩ ?_
    rintro i env' σ'' ⟨o, ⟨hi, hgr⟩, rfl, rfl⟩ ih
    have ih1 := ih
    refine Goes.seq ?_
    refine Goes.region [3, 4, 28, 29, 30] fun K hK => ?_; simp (maxSteps := 4000000) only [go_sem, ↓reduceIte, reduceCtorEq, zqa, zqb, zqc, zqd, zqe, zqf, zqg, zqh, zqi, zqj, zqk, zql, zqm]
    refine hK _ _ ?_; clear hK K
    refine Goes.seq ?_
    refine Goes.cond rfl (fun h31 => ?_) (fun h31 => ?_)
    · have hlt : i < g.man.edges.length := by simpa using h31
      have hg := getD_map_lt XEdge.d g.man.edges i hlt
      have hi0 : (0 : Int) ≤ (i : Int) := by omega
      have hi1 : (i : Int) < ((g.man.edges.map XEdge.d).length : Int) := by omega
      rw [XEdge.d] at hg
      have hsm := hs _ (List.getElem_mem hlt)
      have hnl := hsm.outs
      have hul := outsTo_len g.man hs i hi
      have hsu := outsTo_succ g.man i hlt
      refine Goes.skip ?_
      refine Goes.seq ?_
      refine Goes.block ?_
      refine Goes.seq ?_
      refine Goes.region [3, 4, 28, 29, 30] fun K hK => ?_; simp (maxSteps := 4000000) only [go_sem, ↓reduceIte, reduceCtorEq, zqa, zqb, zqc, zqd, zqe, zqf, zqg, zqh, zqi, zqj, zqk, zql, zqm, hg, hi0, hi1]
      intro be hbe
      refine hK _ _ ?_; clear hK K
      obtain ⟨hgrp, hle⟩ := hgr.push (x := .arr 6 [XEdge.d g.man.edges[i]]) hbe
      refine Goes.le (ELe.refl _) hle ?_
      have hbe2 := (hgr.none_of hbe).1
      have hge := (hgrp.keep (sget_self be (.arr 6 [XEdge.d g.man.edges[i]]) _)).trans (congrArg (fun x => some (AObj.arr 6 [x])) (XEdge.d_eq g.man.edges[i]))
      have ho := hgrp.oget
      have hd := hgrp.sdel
      have hml : ((outsTo g.man i).map sD).length = (outsTo g.man i).length := List.length_map ..
      have hml2 : (g.man.edges[i].outs.map sD).length = g.man.edges[i].outs.length := List.length_map ..
      have htk : List.take (outsTo g.man i).length ((outsTo g.man i).map sD) = (outsTo g.man i).map sD := List.take_of_length_le (by omega)
      refine Goes.region [3, 4, 6, 28, 29, 30] fun K hK => ?_; simp (maxSteps := 4000000) only [go_sem, ↓reduceIte, reduceCtorEq, zqa, zqb, zqc, zqd, zqe, zqf, zqg, zqh, zqi, zqj, zqk, zql, zqm, hge, ho, hd, htk]
      refine ⟨⟨by omega, plain_sD _, by omega, by omega⟩, fun ob hz hf => ?_⟩
      have hgr2 := hgrp.app hz hf
      have e1 : (outsTo g.man i).map sD ++ g.man.edges[i].outs.map sD = (outsTo g.man (i + 1)).map sD := by rw [hsu, List.map_append]
      rw [e1] at hgr2 ⊢
      have hdr := hgr2.drop hbe2
      refine hK _ _ ?_; clear hK K
      refine Goes.le (ELe.refl _) hdr.2 ?_
      refine Goes.inBlock ?_
      refine Goes.region [3, 4, 28, 29, 30] fun K hK => ?_; simp (maxSteps := 4000000) only [go_sem, ↓reduceIte, reduceCtorEq, zqa, zqb, zqc, zqd, zqe, zqf, zqg, zqh, zqi, zqj, zqk, zql, zqm]
      refine hK _ _ ?_; clear hK K
      refine Goes.rebase [3, 4, 28, 29, 30] ?_
      simp only [go_sem, ↓reduceIte, reduceCtorEq, zqa, zqb, zqc, zqd, zqe, zqf, zqg, zqh, zqi, zqj, zqk, zql, zqm]
      rw [wrap_succ i (by omega)]
      exact ih (i + 1) _ _ ⟨ob, ⟨by omega, hdr.1⟩, by rw [List.length_map], rfl⟩ (by omega)
    · have hie : i = g.man.edges.length := by simp at h31; omega
      subst hie
      have hol := outsTo_len g.man hs g.man.edges.length (Nat.le_refl _)
      refine Goes.exit rfl ?_
      refine Goes.seq ?_
      refine Goes.region [3, 4] fun K hK => ?_; simp (maxSteps := 4000000) only [go_sem, ↓reduceIte, reduceCtorEq, zqa, zqb, zqc, zqd, zqe, zqf, zqg, zqh, zqi, zqj, zqk, zql, zqm]
      refine ⟨_, Tryz.call71, (deleteFunc_strG o (outsTo g.man g.man.edges.length) _ [.ptr b3 1 0 0] (fun f => (usedL g.man).contains f) _ (by omega) hgr (fun τ hle => targets1_tests (usedL g.man) b3 τ _ (hle b3 _ (sget_self ..)) (by omega) (usedL_sorted g.man))).mono ?_⟩
      rintro e σ1 ⟨rfl, rfl, hgr2⟩
      simp only [go_sem, ↓reduceIte, reduceCtorEq, zqa, zqb, zqc, zqd, zqe, zqf, zqg, zqh, zqi, zqj, zqk, zql, zqm]
      refine hK _ _ ?_; clear hK K
      have hdr := hgr2.drop hb3
      refine Goes.le (ELe.refl _) hdr.2 ?_
      refine Goes.ret hC Tryz.func30 (by simp [go_sem]) ?_
      simp only [go_sem, ↓reduceIte, reduceCtorEq, zqa, zqb, zqc, zqd, zqe, zqf, zqg, zqh, zqi, zqj, zqk, zql, zqm]
      have hu : outsTo g.man g.man.edges.length = g.man.edges.flatMap XEdge.outs := by unfold outsTo; rw [List.take_length]
      have ht : targetsL g = kept (fun f => (usedL g.man).contains f) (outsTo g.man g.man.edges.length) := by unfold targetsL; rw [if_neg hdp, hu]
      rw [ht]
      exact .inr ⟨o, hdr.1, rfl, rfl⟩
theorem ACalls.pubOwnD {f : FuncId} {args : List D} {sz : Nat} {xs : List D} (h : ACalls Tryz.prog f args [] (fun e σ' => (e = .ret (.slc xs) ∧ σ' = []) ∨ ∃ o, GrD o sz xs [] ∧ e = .ret (.own o sz xs.length) ∧ σ' = cellsOf o sz xs ++ [])) (σ : Store) : ACalls Tryz.prog f args σ (fun e σ' => e = .ret (.slc xs) ∧ σ' = σ) := by
  have h2 : ACalls Tryz.prog f args [] (fun e σ' => (e = .ret (.slc xs) ∧ σ' = []) ∨ ∃ b, e = .ret (.own (some b) sz xs.length) ∧ σ' = [(b, .arr sz xs)]) := by
    refine h.ret_le fun e σ' hh => ?_
    rcases hh with hh | ⟨o, hg, he, hs⟩
    · exact .inl (.inl hh)
    · cases o with
      | some b => exact .inl (.inr ⟨b, he, hs⟩)
      | none =>
        have : xs = [] := hg.zero rfl
        subst this
        exact .inr ⟨_, _, he, DLe.own_slc _ _, .inl ⟨rfl, hs⟩⟩
  refine ACalls.pub1 (R' := fun e => e = .ret (.slc xs)) h2 (fun e σ' hh => ?_) σ
  rcases hh with hh | ⟨b, rfl, rfl⟩
  · exact .inl hh
  · exact .inr ⟨_, b, sz, xs, rfl, rfl, by rw [pub_own]⟩
theorem targets_calls (g : XGr) (mb : Nat) (σ : Store) (hl : g.man.edges.length < 2 ^ 20) (hs : ∀ e ∈ g.man.edges, e.small) (hd : g.man.defs.length < 2 ^ 20) :
    ACalls Tryz.prog 30 [g.d mb] σ (fun e σ' => e = .ret (.slc ((targetsL g).map sD)) ∧ σ' = σ) := by
  refine ACalls.pubOwnD (sz := 1) ((targets_own g mb [] hl hs hd).mono ?_) σ
  rintro e σ' (h | ⟨o, hgr, rfl, rfl⟩)
  · exact .inl h
  · exact .inr ⟨o, hgr, by rw [List.length_map], rfl⟩
/-- A graph whose parts fit one another. -/
structure XGr.Ok (g : XGr) : Prop where
  el : g.man.edges.length < 2 ^ 20
  sm : ∀ e ∈ g.man.edges, e.small
  dl : g.man.defs.length < 2 ^ 20
  al : g.ah.length = g.man.edges.length
  ab : ∀ l ∈ g.ah, l.length < 2 ^ 30 ∧ ∀ n ∈ l, n < g.ah.length
  kn : (g.mks.map (·.1)).Nodup
  kl : g.mks.length < 2 ^ 30
  kb : ∀ p ∈ g.mks, p.2 < g.man.edges.length
  ks : ∀ p ∈ g.mks, p.1.size < 2 ^ 40
/-- The edges that some targets need, in their order: or 6: a target that is no file. -/
def planL (g : XGr) (ts : List ByteArray) : Nat ⊕ List Nat :=
  if ts.any (fun f => !(sourcesL g).contains f && !(lookL g.mks f).isSome) then .inl 6 else .inr (orderL g.ah (reachedS g.ah (madeL g.mks ts)))
def planD : Nat ⊕ List Nat → D
  | .inl c => .tup [.v (.slice none 0 0), .v (.int .i64 (c : Int))]
  | .inr l => .tup [.slc (l.map nD), .v (.int .i64 0)]
theorem lookL_mem {mks : List (ByteArray × Nat)} {f : ByteArray} {n : Nat} (h : lookL mks f = some n) : ∃ p ∈ mks, p.2 = n ∧ p.1 = f := by
  unfold lookL at h
  obtain ⟨p, hp, rfl⟩ := Option.map_eq_some_iff.1 h
  exact ⟨p, List.mem_of_find?_eq_some hp, rfl, by have := List.find?_some hp; exact (eq_of_beq this).symm⟩
theorem madeL_lt {mks : List (ByteArray × Nat)} {B : Nat} (h : ∀ p ∈ mks, p.2 < B) (fs : List ByteArray) : ∀ n ∈ madeL mks fs, n < B := by
  have key : ∀ i, i ≤ fs.length → ∀ n ∈ madeL mks (fs.take i), n < B := by
    intro i
    induction i with
    | zero => intro _ n hn; simp [madeL] at hn
    | succ i ih =>
      intro hi n hn
      rw [madeL_succ mks fs i (by omega)] at hn
      split at hn
      · rename_i m hm
        obtain ⟨p, hp, hpm, _⟩ := lookL_mem hm
        split at hn
        · exact ih (by omega) n hn
        · rcases List.mem_append.1 hn with hn | hn
          · exact ih (by omega) n hn
          · simp only [List.mem_singleton] at hn; rw [hn, ← hpm]; exact h p hp
      · exact ih (by omega) n hn
  have := key fs.length (Nat.le_refl _)
  rwa [List.take_length] at this
theorem bfs_ok (ah : List (List Nat)) (hah : ∀ l ∈ ah, ∀ n ∈ l, n < ah.length) : ∀ (f k : Nat) (met : List Nat), met.Nodup → (∀ n ∈ met, n < ah.length) → (bfsF ah f k met).Nodup ∧ ∀ n ∈ bfsF ah f k met, n < ah.length
  | 0, k, met, h1, h2 => ⟨h1, h2⟩
  | f + 1, k, met, h1, h2 => by
    unfold bfsF
    split
    · rename_i hk
      refine bfs_ok ah hah f (k + 1) _ (visitL_nodup _ _ h1) fun n hn => ?_
      rcases (visitL_mem _ _ n).1 hn with h | h
      · exact h2 n h
      · have hm := h2 met[k] (List.getElem_mem hk)
        rw [getD_lt ah met[k] [] hm] at h
        exact hah _ (List.getElem_mem hm) n h
    · exact ⟨h1, h2⟩
theorem reachedL_ok (ah : List (List Nat)) (hah : ∀ l ∈ ah, ∀ n ∈ l, n < ah.length) (frm : List Nat) (hf : ∀ n ∈ frm, n < ah.length) : (reachedL ah frm).Nodup ∧ ∀ n ∈ reachedL ah frm, n < ah.length :=
  bfs_ok ah hah _ _ _ (visitL_nodup _ _ List.nodup_nil) fun n hn => by
    rcases (visitL_mem frm [] n).1 hn with h | h
    · cases h
    · exact hf n h
theorem reachedS_ok (ah : List (List Nat)) (hah : ∀ l ∈ ah, ∀ n ∈ l, n < ah.length) (frm : List Nat) (hf : ∀ n ∈ frm, n < ah.length) : (reachedS ah frm).length ≤ ah.length ∧ ∀ n ∈ reachedS ah frm, n < ah.length := by
  obtain ⟨h1, h2⟩ := reachedL_ok ah hah frm hf
  have hp : (reachedS ah frm).Perm (reachedL ah frm) := isort_perm _
  refine ⟨?_, fun n hn => h2 n (hp.mem_iff.1 hn)⟩
  rw [hp.length_eq]
  have := nodup_sub_len h1 (m := List.range ah.length) (fun x hx => List.mem_range.2 (h2 x hx))
  rwa [List.length_range] at this
theorem plan_calls (g : XGr) (hg : g.Ok) (mb : Nat) (ts : List ByteArray) (σ : Store) (hm : sget mb σ = some (.mp (mkE g.mks))) (ht : ts.length < 2 ^ 30) :
    ACalls Tryz.prog 31 [g.d mb, .slc (ts.map sD)] σ (fun e σ' => e = .ret (planD (planL g ts)) ∧ σ' = σ) := by
  have hul := usedL_len g.man hg.sm
  have hel := hg.el
  have hsl : (sourcesL g).length ≤ (usedL g.man).length := kept_len ..
  have htl : (ts.map sD).length = ts.length := List.length_map ..
  have hss := kept_sorted (fun f => (lookL g.mks f).isSome) _ (usedL_sorted g.man)
  have hgd : g.d mb = .elt [.slc (g.man.edges.map XEdge.d), .slc (g.man.defs.map sD), .map mb, .slc (g.ah.map fun l => .slc (l.map nD))] := rfl
  have hmlt := madeL_lt hg.kb ts
  have hmlen := madeL_len g.mks ts ts.length (Nat.le_refl _)
  rw [List.take_length] at hmlen
  have hreach := reached_calls (.slc (g.man.defs.map sD)) (.map mb) (g.man.edges.map XEdge.d) g.ah (madeL g.mks ts) σ (by rw [List.length_map]; exact hg.al.symm) (by rw [hg.al]; omega) (fun n hn => by rw [hg.al]; exact hmlt n hn) (by omega) hg.ab
  obtain ⟨hrl, hrb⟩ := reachedS_ok g.ah (fun l hl => (hg.ab l hl).2) (madeL g.mks ts) (fun n hn => by rw [hg.al]; exact hmlt n hn)
  have horder := order_calls (.slc (g.man.edges.map XEdge.d)) (.slc (g.man.defs.map sD)) (.map mb) g.ah (reachedS g.ah (madeL g.mks ts)) σ (by rw [hg.al] at hrl; omega) hrb (fun l hl => (hg.ab l hl).1)
  refine ACalls.of_body Tryz.func31 rfl Tryz.ntmps31 (by simp) fun C hC => ?_
  rw [hgd]
  refine Goes.seq ?_
  refine Goes.region [0, 1] fun K hK => ?_; simp (maxSteps := 4000000) only [go_sem, ↓reduceIte, reduceCtorEq, zqa, zqb, zqc, zqd, zqe, zqf, zqg, zqh, zqi, zqj, zqk, zql, zqm]
  refine hK _ _ ?_; clear hK K
  refine Goes.seq ?_
  refine Goes.seq ?_
  refine Goes.region [0, 1] fun K hK => ?_; simp (maxSteps := 4000000) only [go_sem, ↓reduceIte, reduceCtorEq, zqa, zqb, zqc, zqd, zqe, zqf, zqg, zqh, zqi, zqj, zqk, zql, zqm]
  refine hK _ _ ?_; clear hK K
  refine Goes.condF rfl ?_
  refine Goes.skip ?_
  refine Goes.seq ?_
  refine Goes.region [0, 1] fun K hK => ?_; simp (maxSteps := 4000000) only [go_sem, ↓reduceIte, reduceCtorEq, zqa, zqb, zqc, zqd, zqe, zqf, zqg, zqh, zqi, zqj, zqk, zql, zqm]
  refine ⟨_, Tryz.call64, (sources_calls g mb σ hm hel hg.sm).mono ?_⟩
  rintro e σ1 ⟨rfl, rfl⟩
  simp only [go_sem, ↓reduceIte, reduceCtorEq, zqa, zqb, zqc, zqd, zqe, zqf, zqg, zqh, zqi, zqj, zqk, zql, zqm]
  refine hK _ _ ?_; clear hK K
  refine Goes.seq ?_
  refine Goes.seq ?_
  refine Goes.region [0, 1, 6] fun K hK => ?_; simp (maxSteps := 4000000) only [go_sem, ↓reduceIte, reduceCtorEq, zqa, zqb, zqc, zqd, zqe, zqf, zqg, zqh, zqi, zqj, zqk, zql, zqm, htl]
  refine hK _ _ ?_; clear hK K
  refine Goes.block ?_
  refine Goes.rebase [0, 1, 6, 17, 18, 19] ?_
  simp only [go_sem, ↓reduceIte, reduceCtorEq, zqa, zqb, zqc, zqd, zqe, zqf, zqg, zqh, zqi, zqj, zqk, zql, zqm]
  refine Goes.while (fun (i : Nat) env' σ'' => (i ≤ ts.length ∧ ∀ f ∈ ts.take i, (!(sourcesL g).contains f && !(lookL g.mks f).isSome) = false) ∧ env' = [(0, .elt [.slc (g.man.edges.map XEdge.d), .slc (g.man.defs.map sD), .map mb, .slc (g.ah.map fun l => .slc (l.map nD))]), (1, .slc (ts.map sD)), (6, .slc ((sourcesL g).map sD)), (17, .slc (ts.map sD)), (18, .v (.int .i64 (ts.length : Int))), (19, .v (.int .i64 (i : Int)))] ∧ σ1 = σ'') (fun (i : Nat) => ts.length - i) 0 ⟨⟨by omega, by simp⟩, rfl, rfl⟩ ?_
  rintro i env' σ'' ⟨⟨hi, hall⟩, rfl, rfl⟩ ih
  have ih1 := ih
  refine Goes.seq ?_
  refine Goes.region [0, 1, 6, 17, 18, 19] fun K hK => ?_; simp (maxSteps := 4000000) only [go_sem, ↓reduceIte, reduceCtorEq, zqa, zqb, zqc, zqd, zqe, zqf, zqg, zqh, zqi, zqj, zqk, zql, zqm]
  refine hK _ _ ?_; clear hK K
  refine Goes.seq ?_
  refine Goes.cond rfl (fun h20 => ?_) (fun h20 => ?_)
  · have hlt : i < ts.length := by simpa using h20
    have hgx := getD_map_lt sD ts i hlt
    rw [sD] at hgx
    have hi0 : (0 : Int) ≤ (i : Int) := by omega
    have hi1 : (i : Int) < ((ts.map sD).length : Int) := by omega
    have hfd := mfind_mkE g.mks ts[i]
    have hlk := mkE_like g.mks ts[i]
    have hf1 := getD_nD (lookL g.mks ts[i])
    have hf2 := some_nD (lookL g.mks ts[i])
    refine Goes.skip ?_
    refine Goes.seq ?_
    refine Goes.block ?_
    refine Goes.seq ?_
    refine Goes.region [0, 1, 6, 17, 18, 19] fun K hK => ?_; simp (maxSteps := 4000000) only [go_sem, ↓reduceIte, reduceCtorEq, zqa, zqb, zqc, zqd, zqe, zqf, zqg, zqh, zqi, zqj, zqk, zql, zqm, hgx, hi0, hi1]
    refine hK _ _ ?_; clear hK K
    refine Goes.seq ?_
    refine Goes.region [0, 1, 6, 8, 17, 18, 19] fun K hK => ?_; simp (maxSteps := 4000000) only [go_sem, ↓reduceIte, reduceCtorEq, zqa, zqb, zqc, zqd, zqe, zqf, zqg, zqh, zqi, zqj, zqk, zql, zqm, hm, hfd, hf1, hf2]
    refine ⟨⟨rfl, hlk⟩, ?_⟩
    refine hK _ _ ?_; clear hK K
    refine Goes.seq ?_
    refine Goes.region [0, 1, 6, 8, 10, 17, 18, 19] fun K hK => ?_; simp (maxSteps := 4000000) only [go_sem, ↓reduceIte, reduceCtorEq, zqa, zqb, zqc, zqd, zqe, zqf, zqg, zqh, zqi, zqj, zqk, zql, zqm]
    refine ⟨_, Tryz.call60, (search_calls (sourcesL g) ts[i] _ (by omega) hss).mono ?_⟩
    rintro e σ2 ⟨⟨ix, rfl⟩, rfl⟩
    simp only [go_sem, ↓reduceIte, reduceCtorEq, zqa, zqb, zqc, zqd, zqe, zqf, zqg, zqh, zqi, zqj, zqk, zql, zqm]
    refine hK _ _ ?_; clear hK K
    refine Goes.seq ?_
    rcases Bool.eq_false_or_eq_true ((sourcesL g).contains ts[i]) with hct | hct
    · refine Goes.region [0, 1, 6, 10, 12, 17, 18, 19] fun K hK => ?_; simp (maxSteps := 4000000) only [go_sem, ↓reduceIte, reduceCtorEq, zqa, zqb, zqc, zqd, zqe, zqf, zqg, zqh, zqi, zqj, zqk, zql, zqm, hct]
      refine hK _ _ ?_; clear hK K
      refine Goes.condF rfl ?_
      refine Goes.skip ?_
      refine Goes.inBlock ?_
      refine Goes.region [0, 1, 6, 17, 18, 19] fun K hK => ?_; simp (maxSteps := 4000000) only [go_sem, ↓reduceIte, reduceCtorEq, zqa, zqb, zqc, zqd, zqe, zqf, zqg, zqh, zqi, zqj, zqk, zql, zqm]
      refine hK _ _ ?_; clear hK K
      refine Goes.rebase [0, 1, 6, 17, 18, 19] ?_
      simp only [go_sem, ↓reduceIte, reduceCtorEq, zqa, zqb, zqc, zqd, zqe, zqf, zqg, zqh, zqi, zqj, zqk, zql, zqm]
      rw [wrap_succ i (by omega)]
      exact ih (i + 1) _ _ ⟨⟨by omega, take_succ_none hlt hall (by rw [hct]; rfl)⟩, rfl, rfl⟩ (by omega)
    · refine Goes.region [0, 1, 6, 10, 12, 17, 18, 19] fun K hK => ?_; simp (maxSteps := 4000000) only [go_sem, ↓reduceIte, reduceCtorEq, zqa, zqb, zqc, zqd, zqe, zqf, zqg, zqh, zqi, zqj, zqk, zql, zqm, hct]
      refine hK _ _ ?_; clear hK K
      refine Goes.cond rfl (fun h43 => ?_) (fun h43 => ?_)
      · have hmk : (lookL g.mks ts[i]).isSome = false := by simpa using h43
        refine Goes.seq ?_
        refine Goes.region [] fun K hK => ?_; simp (maxSteps := 4000000) only [go_sem, ↓reduceIte, reduceCtorEq, zqa, zqb, zqc, zqd, zqe, zqf, zqg, zqh, zqi, zqj, zqk, zql, zqm]
        refine hK _ _ ?_; clear hK K
        refine Goes.ret hC Tryz.func31 (by simp [go_sem]) ?_
        simp only [go_sem, ↓reduceIte, reduceCtorEq, zqa, zqb, zqc, zqd, zqe, zqf, zqg, zqh, zqi, zqj, zqk, zql, zqm]
        have hany : ts.any (fun f => !(sourcesL g).contains f && !(lookL g.mks f).isSome) = true := List.any_eq_true.2 ⟨ts[i], List.getElem_mem hlt, by rw [hct, hmk]; rfl⟩
        have : planL g ts = .inl 6 := by unfold planL; rw [if_pos hany]
        rw [this]
        rfl
      · have hmk : (lookL g.mks ts[i]).isSome = true := by simpa using h43
        refine Goes.skip ?_
        refine Goes.inBlock ?_
        refine Goes.region [0, 1, 6, 17, 18, 19] fun K hK => ?_; simp (maxSteps := 4000000) only [go_sem, ↓reduceIte, reduceCtorEq, zqa, zqb, zqc, zqd, zqe, zqf, zqg, zqh, zqi, zqj, zqk, zql, zqm]
        refine hK _ _ ?_; clear hK K
        refine Goes.rebase [0, 1, 6, 17, 18, 19] ?_
        simp only [go_sem, ↓reduceIte, reduceCtorEq, zqa, zqb, zqc, zqd, zqe, zqf, zqg, zqh, zqi, zqj, zqk, zql, zqm]
        rw [wrap_succ i (by omega)]
        exact ih (i + 1) _ _ ⟨⟨by omega, take_succ_none hlt hall (by rw [hct, hmk]; rfl)⟩, rfl, rfl⟩ (by omega)
  · have hie : i = ts.length := by simp at h20; omega
    subst hie
    rw [List.take_length] at hall
    have hany : ts.any (fun f => !(sourcesL g).contains f && !(lookL g.mks f).isSome) = false := by
      rw [Bool.eq_false_iff]
      intro hc
      obtain ⟨f, hf, h⟩ := List.any_eq_true.1 hc
      rw [hall f hf] at h; cases h
    have hpl : planL g ts = .inr (orderL g.ah (reachedS g.ah (madeL g.mks ts))) := by unfold planL; rw [if_neg (by rw [hany]; simp)]
    refine Goes.exit rfl ?_
    refine Goes.seq ?_
    refine Goes.region [0, 1] fun K hK => ?_; simp (maxSteps := 4000000) only [go_sem, ↓reduceIte, reduceCtorEq, zqa, zqb, zqc, zqd, zqe, zqf, zqg, zqh, zqi, zqj, zqk, zql, zqm]
    refine ⟨_, Tryz.call54, (made_calls g mb ts _ hm ht).mono ?_⟩
    rintro e σ1 ⟨rfl, rfl⟩
    simp only [go_sem, ↓reduceIte, reduceCtorEq, zqa, zqb, zqc, zqd, zqe, zqf, zqg, zqh, zqi, zqj, zqk, zql, zqm]
    refine ⟨_, Tryz.call73, hreach.mono ?_⟩
    rintro e σ1 ⟨rfl, rfl⟩
    simp only [go_sem, ↓reduceIte, reduceCtorEq, zqa, zqb, zqc, zqd, zqe, zqf, zqg, zqh, zqi, zqj, zqk, zql, zqm]
    refine ⟨_, Tryz.call56, horder.mono ?_⟩
    rintro e σ1 ⟨rfl, rfl⟩
    simp only [go_sem, ↓reduceIte, reduceCtorEq, zqa, zqb, zqc, zqd, zqe, zqf, zqg, zqh, zqi, zqj, zqk, zql, zqm]
    refine hK _ _ ?_; clear hK K
    refine Goes.ret hC Tryz.func31 (by simp [go_sem]) ?_
    simp only [go_sem, ↓reduceIte, reduceCtorEq, zqa, zqb, zqc, zqd, zqe, zqf, zqg, zqh, zqi, zqj, zqk, zql, zqm]
    rw [hpl]
    rfl
end Go.Ab.S16
set_option linter.unusedSimpArgs false
set_option linter.unusedVariables false
set_option linter.constructorNameAsVariable false
namespace Go.Ab.S16
open Go Go.Proofs Go.RowKit Go.Maps Go.Sort Go.Shelf
def outsOf (m : XMan) (k : Nat) : List ByteArray := (m.edges[k]?.map XEdge.outs).getD []
/-- The files that the edges ahead of an edge make. -/
def aheadL (g : XGr) (n : Nat) : List Nat := reachedS g.ah (g.ah.getD n [])
def aboveL (g : XGr) (n : Nat) : List ByteArray := sortB ((aheadL g n).flatMap (outsOf g.man))
def aboveTo (g : XGr) (n i : Nat) : List ByteArray := ((aheadL g n).take i).flatMap (outsOf g.man)
theorem aboveTo_succ (g : XGr) (n i : Nat) (h : i < (aheadL g n).length) : aboveTo g n (i + 1) = aboveTo g n i ++ outsOf g.man (aheadL g n)[i] := by
  unfold aboveTo
  rw [List.take_succ_eq_append_getElem h, List.flatMap_append]
  simp
theorem outsOf_len (m : XMan) (hs : ∀ e ∈ m.edges, e.small) (k : Nat) : (outsOf m k).length ≤ 10 := by
  unfold outsOf
  cases h : m.edges[k]? with
  | none => simp
  | some e => exact (hs e (List.mem_of_getElem? h)).outs
theorem aboveTo_len (g : XGr) (n : Nat) (hs : ∀ e ∈ g.man.edges, e.small) : ∀ i, i ≤ (aheadL g n).length → (aboveTo g n i).length ≤ 10 * i
  | 0, _ => by simp [aboveTo]
  | i + 1, h => by
    have h1 := aboveTo_len g n hs i (by omega)
    have h2 := outsOf_len g.man hs (aheadL g n)[i]
    rw [aboveTo_succ g n i (by omega), List.length_append]; omega
theorem above_own (g : XGr) (hg : g.Ok) (mb n : Nat) (hn : n < g.man.edges.length) (σ : Store) :
    ACalls Tryz.prog 61 [g.d mb, nD n] σ (fun e σ' => ∃ o, GrD o 1 ((aboveL g n).map sD) σ ∧ e = .ret (.own o 1 ((aboveL g n).map sD).length) ∧ σ' = cellsOf o 1 ((aboveL g n).map sD) ++ σ) := by
  have hel := hg.el
  have hll : (g.man.edges.map XEdge.d).length = g.man.edges.length := List.length_map ..
  have hal := hg.al
  have hgd : g.d mb = .elt [.slc (g.man.edges.map XEdge.d), .slc (g.man.defs.map sD), .map mb, .slc (g.ah.map fun l => .slc (l.map nD))] := rfl
  have hn2 : n < g.ah.length := by omega
  have hah := getD_map_lt (fun l => D.slc (l.map nD)) g.ah n hn2
  have hn0 : (0 : Int) ≤ (n : Int) := by omega
  have hn1 : (n : Int) < ((g.ah.map fun l => D.slc (l.map nD)).length : Int) := by rw [List.length_map]; omega
  have hz : decide ((n : Int) < 0) = false := by simp
  have hz2 : decide ((n : Int) ≥ (g.man.edges.length : Int)) = false := by simp; omega
  have hab := hg.ab _ (List.getElem_mem hn2)
  have hreach := reached_calls (.slc (g.man.defs.map sD)) (.map mb) (g.man.edges.map XEdge.d) g.ah g.ah[n] σ (by rw [List.length_map]; exact hg.al.symm) (by omega) hab.2 hab.1 hg.ab
  obtain ⟨hrl, hrb⟩ := reachedS_ok g.ah (fun l hl => (hg.ab l hl).2) g.ah[n] hab.2
  have hahd : aheadL g n = reachedS g.ah g.ah[n] := by unfold aheadL; rw [getD_lt g.ah n [] hn2]
  rw [← hahd] at hreach hrl hrb
  have hrm : ((aheadL g n).map nD).length = (aheadL g n).length := List.length_map ..
  rw [hgd]
  refine ACalls.of_body Tryz.func61 rfl Tryz.ntmps61 (by simp) fun C hC => ?_
  refine Goes.seq ?_
  refine Goes.region [0, 1] fun K hK => ?_; simp (maxSteps := 4000000) only [go_sem, ↓reduceIte, reduceCtorEq, zqa, zqb, zqc, zqd, zqe, zqf, zqg, zqh, zqi, zqj, zqk, zql, zqm]
  refine hK _ _ ?_; clear hK K
  refine Goes.seq ?_
  refine Goes.seq ?_
  refine Goes.region [0, 1] fun K hK => ?_; simp (maxSteps := 4000000) only [go_sem, ↓reduceIte, reduceCtorEq, zqa, zqb, zqc, zqd, zqe, zqf, zqg, zqh, zqi, zqj, zqk, zql, zqm, nD, hll, hz, hz2]
  refine hK _ _ ?_; clear hK K
  refine Goes.condF rfl ?_
  refine Goes.skip ?_
  refine Goes.seq ?_
  refine Goes.region [0, 1] fun K hK => ?_; simp (maxSteps := 4000000) only [go_sem, ↓reduceIte, reduceCtorEq, zqa, zqb, zqc, zqd, zqe, zqf, zqg, zqh, zqi, zqj, zqk, zql, zqm]
  refine hK _ _ ?_; clear hK K
  refine Goes.seq ?_
  refine Goes.seq ?_
  refine Goes.region [0, 1, 5] fun K hK => ?_; simp (maxSteps := 4000000) only [go_sem, ↓reduceIte, reduceCtorEq, zqa, zqb, zqc, zqd, zqe, zqf, zqg, zqh, zqi, zqj, zqk, zql, zqm, nD, hah, hn0, hn1]
  refine ⟨_, Tryz.call73, hreach.mono ?_⟩
  rintro e σ1 ⟨rfl, rfl⟩
  simp only [go_sem, ↓reduceIte, reduceCtorEq, zqa, zqb, zqc, zqd, zqe, zqf, zqg, zqh, zqi, zqj, zqk, zql, zqm, hrm]
  refine hK _ _ ?_; clear hK K
  refine Goes.block ?_
  refine Goes.nilOwn 5 1 rfl ?_
  refine Goes.rebase [0, 5, 32, 33, 34] ?_
  simp only [go_sem, ↓reduceIte, reduceCtorEq, zqa, zqb, zqc, zqd, zqe, zqf, zqg, zqh, zqi, zqj, zqk, zql, zqm]
  refine Goes.while (fun (i : Nat) env' σ'' => ∃ o : Option Nat, (i ≤ (aheadL g n).length ∧ GrD o 1 ((aboveTo g n i).map sD) σ1) ∧ env' = [(0, .elt [.slc (g.man.edges.map XEdge.d), .slc (g.man.defs.map sD), .map mb, .slc (g.ah.map fun l => .slc (l.map nD))]), (5, .own o 1 (aboveTo g n i).length), (32, .slc ((aheadL g n).map nD)), (33, .v (.int .i64 ((aheadL g n).length : Int))), (34, .v (.int .i64 (i : Int)))] ∧ σ'' = cellsOf o 1 ((aboveTo g n i).map sD) ++ σ1) (fun (i : Nat) => (aheadL g n).length - i) 0 ⟨none, ⟨by omega, GrD.nil _ _⟩, rfl, rfl⟩ ?_
  rintro i env' σ'' ⟨o, ⟨hi, hgr⟩, rfl, rfl⟩ ih
  have ih1 := ih
  refine Goes.seq ?_
  refine Goes.region [0, 5, 32, 33, 34] fun K hK => ?_; simp (maxSteps := 4000000) only [go_sem, ↓reduceIte, reduceCtorEq, zqa, zqb, zqc, zqd, zqe, zqf, zqg, zqh, zqi, zqj, zqk, zql, zqm]
  refine hK _ _ ?_; clear hK K
  refine Goes.seq ?_
  refine Goes.cond rfl (fun h35 => ?_) (fun h35 => ?_)
  · have hlt : i < (aheadL g n).length := by simpa using h35
    have hgx := getD_map_lt nD (aheadL g n) i hlt
    rw [nD] at hgx
    have hi0 : (0 : Int) ≤ (i : Int) := by omega
    have hi1 : (i : Int) < (((aheadL g n).map nD).length : Int) := by omega
    have hkb := hrb _ (List.getElem_mem hlt)
    have hkb2 : (aheadL g n)[i] < g.man.edges.length := by omega
    have hge := getD_map_lt XEdge.d g.man.edges (aheadL g n)[i] hkb2
    rw [XEdge.d] at hge
    have hj0 : (0 : Int) ≤ ((aheadL g n)[i] : Int) := by omega
    have hj1 : ((aheadL g n)[i] : Int) < ((g.man.edges.map XEdge.d).length : Int) := by omega
    have hsm := hg.sm _ (List.getElem_mem hkb2)
    have hnl := hsm.outs
    have hul := aboveTo_len g n hg.sm i hi
    have hsu := aboveTo_succ g n i hlt
    have hoo : outsOf g.man (aheadL g n)[i] = g.man.edges[(aheadL g n)[i]].outs := by unfold outsOf; rw [List.getElem?_eq_getElem hkb2]; rfl
    rw [hoo] at hsu
    have ho := hgr.oget
    have hd := hgr.sdel
    have hml : ((aboveTo g n i).map sD).length = (aboveTo g n i).length := List.length_map ..
    have hml2 : (g.man.edges[(aheadL g n)[i]].outs.map sD).length = g.man.edges[(aheadL g n)[i]].outs.length := List.length_map ..
    have htk : List.take (aboveTo g n i).length ((aboveTo g n i).map sD) = (aboveTo g n i).map sD := List.take_of_length_le (by omega)
    refine Goes.skip ?_
    refine Goes.seq ?_
    refine Goes.block ?_
    refine Goes.seq ?_
    refine Goes.region [0, 5, 32, 33, 34] fun K hK => ?_; simp (maxSteps := 4000000) only [go_sem, ↓reduceIte, reduceCtorEq, zqa, zqb, zqc, zqd, zqe, zqf, zqg, zqh, zqi, zqj, zqk, zql, zqm, hgx, hi0, hi1]
    refine hK _ _ ?_; clear hK K
    refine Goes.region [0, 5, 7, 32, 33, 34] fun K hK => ?_; simp (maxSteps := 4000000) only [go_sem, ↓reduceIte, reduceCtorEq, zqa, zqb, zqc, zqd, zqe, zqf, zqg, zqh, zqi, zqj, zqk, zql, zqm, hge, hj0, hj1, ho, hd, htk]
    refine ⟨⟨by omega, plain_sD _, by omega, by omega⟩, fun ob hz hf => ?_⟩
    have hgr2 := hgr.app hz hf
    have e1 : (aboveTo g n i).map sD ++ g.man.edges[(aheadL g n)[i]].outs.map sD = (aboveTo g n (i + 1)).map sD := by rw [hsu, List.map_append]
    rw [e1] at hgr2 ⊢
    refine hK _ _ ?_; clear hK K
    refine Goes.inBlock ?_
    refine Goes.region [0, 5, 32, 33, 34] fun K hK => ?_; simp (maxSteps := 4000000) only [go_sem, ↓reduceIte, reduceCtorEq, zqa, zqb, zqc, zqd, zqe, zqf, zqg, zqh, zqi, zqj, zqk, zql, zqm]
    refine hK _ _ ?_; clear hK K
    refine Goes.rebase [0, 5, 32, 33, 34] ?_
    simp only [go_sem, ↓reduceIte, reduceCtorEq, zqa, zqb, zqc, zqd, zqe, zqf, zqg, zqh, zqi, zqj, zqk, zql, zqm]
    rw [wrap_succ i (by omega)]
    exact ih (i + 1) _ _ ⟨ob, ⟨by omega, hgr2⟩, by rw [List.length_map], rfl⟩ (by omega)
  · have hie : i = (aheadL g n).length := by simp at h35; omega
    subst hie
    have hul := aboveTo_len g n hg.sm _ hi
    refine Goes.exit rfl ?_
    refine Goes.seq ?_
    refine Goes.region [5] fun K hK => ?_; simp (maxSteps := 4000000) only [go_sem, ↓reduceIte, reduceCtorEq, zqa, zqb, zqc, zqd, zqe, zqf, zqg, zqh, zqi, zqj, zqk, zql, zqm]
    refine ⟨_, Tryz.call94, (sort_own o (aboveTo g n (aheadL g n).length) σ1 hgr (by omega)).mono ?_⟩
    rintro e σ1 ⟨rfl, rfl⟩
    simp only [go_sem, ↓reduceIte, reduceCtorEq, zqa, zqb, zqc, zqd, zqe, zqf, zqg, zqh, zqi, zqj, zqk, zql, zqm]
    refine hK _ _ ?_; clear hK K
    refine Goes.seq ?_
    refine Goes.region [5] fun K hK => ?_; simp (maxSteps := 4000000) only [go_sem, ↓reduceIte, reduceCtorEq, zqa, zqb, zqc, zqd, zqe, zqf, zqg, zqh, zqi, zqj, zqk, zql, zqm]
    refine hK _ _ ?_; clear hK K
    refine Goes.ret hC Tryz.func61 (by simp [go_sem]) ?_
    simp only [go_sem, ↓reduceIte, reduceCtorEq, zqa, zqb, zqc, zqd, zqe, zqf, zqg, zqh, zqi, zqj, zqk, zql, zqm]
    have hu : aboveTo g n (aheadL g n).length = (aheadL g n).flatMap (outsOf g.man) := by unfold aboveTo; rw [List.take_length]
    have hab2 : aboveL g n = sortB (aboveTo g n (aheadL g n).length) := by unfold aboveL; rw [hu]
    rw [hab2]
    refine ⟨o, GrD.re hgr fun h => ?_, ?_, rfl⟩
    · have : aboveTo g n (aheadL g n).length = [] := by simpa using h
      rw [this]; rfl
    · rw [List.length_map, sortB_len]
theorem above_calls (g : XGr) (hg : g.Ok) (mb n : Nat) (hn : n < g.man.edges.length) (σ : Store) :
    ACalls Tryz.prog 61 [g.d mb, nD n] σ (fun e σ' => e = .ret (.slc ((aboveL g n).map sD)) ∧ σ' = σ) :=
  ACalls.pubOwn (above_own g hg mb n hn []) σ
theorem there_calls (g : XGr) (hg : g.Ok) (mb n : Nat) (hn : n < g.man.edges.length) (f : ByteArray) (hf : f.size < 2 ^ 40) (σ : Store) (hm : sget mb σ = some (.mp (mkE g.mks))) :
    ACalls Tryz.prog 23 [g.d mb, nD n, sD f] σ (fun e σ' => e = .ret (.v (.bool (if (lookL g.mks f).isSome then (aboveL g n).contains f else !ownB f))) ∧ σ' = σ) := by
  have hal : (aboveL g n).length < 2 ^ 40 := by
    have h1 := aboveTo_len g n hg.sm (aheadL g n).length (Nat.le_refl _)
    have h2 : (aheadL g n).length ≤ g.ah.length := by
      have hn2 : n < g.ah.length := by rw [hg.al]; exact hn
      have hab := hg.ab _ (List.getElem_mem hn2)
      have := (reachedS_ok g.ah (fun l hl => (hg.ab l hl).2) g.ah[n] hab.2).1
      unfold aheadL; rw [getD_lt g.ah n [] hn2]; exact this
    have h3 := hg.al
    have h4 := hg.el
    unfold aboveTo at h1
    rw [List.take_length] at h1
    unfold aboveL
    rw [sortB_len]
    omega
  have hmk := graphMaker_calls g mb f σ hm
  have hgd : g.d mb = .elt (g.cells mb) := rfl
  rw [hgd] at hmk ⊢
  refine ACalls.of_body Tryz.func23 rfl Tryz.ntmps23 (by simp) fun C hC => ?_
  refine Goes.seq ?_
  refine Goes.region [0, 1, 2] fun K hK => ?_; simp (maxSteps := 4000000) only [go_sem, ↓reduceIte, reduceCtorEq, zqa, zqb, zqc, zqd, zqe, zqf, zqg, zqh, zqi, zqj, zqk, zql, zqm]
  refine hK _ _ ?_; clear hK K
  refine Goes.seq ?_
  refine Goes.seq ?_
  refine Goes.region [0, 1, 2] fun K hK => ?_; simp (maxSteps := 4000000) only [go_sem, ↓reduceIte, reduceCtorEq, zqa, zqb, zqc, zqd, zqe, zqf, zqg, zqh, zqi, zqj, zqk, zql, zqm, sD]
  refine ⟨_, Tryz.call33, hmk.mono ?_⟩
  rintro e σ1 ⟨rfl, rfl⟩
  simp only [go_sem, ↓reduceIte, reduceCtorEq, zqa, zqb, zqc, zqd, zqe, zqf, zqg, zqh, zqi, zqj, zqk, zql, zqm, sD]
  refine hK _ _ ?_; clear hK K
  refine Goes.seq ?_
  refine Goes.region [0, 1, 2, 8] fun K hK => ?_; simp (maxSteps := 4000000) only [go_sem, ↓reduceIte, reduceCtorEq, zqa, zqb, zqc, zqd, zqe, zqf, zqg, zqh, zqi, zqj, zqk, zql, zqm]
  refine hK _ _ ?_; clear hK K
  refine Goes.cond rfl (fun h18 => ?_) (fun h18 => ?_)
  · have hs : (lookL g.mks f).isSome = false := by simpa using h18
    refine Goes.seq ?_
    refine Goes.region [2] fun K hK => ?_; simp (maxSteps := 4000000) only [go_sem, ↓reduceIte, reduceCtorEq, zqa, zqb, zqc, zqd, zqe, zqf, zqg, zqh, zqi, zqj, zqk, zql, zqm]
    refine ⟨_, Tryz.call18, (own_calls f _ hf).mono ?_⟩
    rintro e σ1 ⟨rfl, rfl⟩
    simp only [go_sem, ↓reduceIte, reduceCtorEq, zqa, zqb, zqc, zqd, zqe, zqf, zqg, zqh, zqi, zqj, zqk, zql, zqm]
    refine hK _ _ ?_; clear hK K
    refine Goes.ret hC Tryz.func23 (by simp [go_sem]) ?_
    simp only [go_sem, ↓reduceIte, reduceCtorEq, zqa, zqb, zqc, zqd, zqe, zqf, zqg, zqh, zqi, zqj, zqk, zql, zqm]
    rw [hs]; rfl
  · have hs : (lookL g.mks f).isSome = true := by simpa using h18
    refine Goes.skip ?_
    refine Goes.seq ?_
    refine Goes.region [0, 1, 2] fun K hK => ?_; simp (maxSteps := 4000000) only [go_sem, ↓reduceIte, reduceCtorEq, zqa, zqb, zqc, zqd, zqe, zqf, zqg, zqh, zqi, zqj, zqk, zql, zqm]
    refine ⟨_, Tryz.call61, (above_calls g hg mb n hn _).mono ?_⟩
    rintro e σ1 ⟨rfl, rfl⟩
    simp only [go_sem, ↓reduceIte, reduceCtorEq, zqa, zqb, zqc, zqd, zqe, zqf, zqg, zqh, zqi, zqj, zqk, zql, zqm]
    refine ⟨_, Tryz.call60, (search_calls (aboveL g n) f _ hal (sortB_pairwise _)).mono ?_⟩
    rintro e σ2 ⟨⟨ix, rfl⟩, rfl⟩
    simp only [go_sem, ↓reduceIte, reduceCtorEq, zqa, zqb, zqc, zqd, zqe, zqf, zqg, zqh, zqi, zqj, zqk, zql, zqm]
    refine hK _ _ ?_; clear hK K
    refine Goes.seq ?_
    refine Goes.region [10] fun K hK => ?_; simp (maxSteps := 4000000) only [go_sem, ↓reduceIte, reduceCtorEq, zqa, zqb, zqc, zqd, zqe, zqf, zqg, zqh, zqi, zqj, zqk, zql, zqm]
    refine hK _ _ ?_; clear hK K
    refine Goes.ret hC Tryz.func23 (by simp [go_sem]) ?_
    simp only [go_sem, ↓reduceIte, reduceCtorEq, zqa, zqb, zqc, zqd, zqe, zqf, zqg, zqh, zqi, zqj, zqk, zql, zqm]
    rw [hs]; rfl
/-- Does the manifest name a file that is the machine's own? -/
def wrongB (g : XGr) : Bool := (outsL g).any ownB || (sourcesL g).any ownB
theorem outsL_len (g : XGr) : (outsL g).length = g.mks.length := by unfold outsL; rw [sortB_len, List.length_map]
theorem own_tests (l : List ByteArray) (h : ∀ f ∈ l, f.size < 2 ^ 40) (σ : Store) : Tests [] 18 ownB l σ := ⟨Tryz.call18, fun f hf => own_calls f σ (h f hf)⟩
theorem wrong_calls (g : XGr) (hg : g.Ok) (mb : Nat) (σ : Store) (hm : sget mb σ = some (.mp (mkE g.mks))) (hsz : ∀ f ∈ sourcesL g, f.size < 2 ^ 40) :
    ACalls Tryz.prog 25 [g.d mb] σ (fun e σ' => e = .ret (.v (.bool (wrongB g))) ∧ σ' = σ) := by
  have hkl := hg.kl
  have hol := outsL_len g
  have hosz : ∀ f ∈ outsL g, f.size < 2 ^ 40 := fun f hf => by
    unfold outsL at hf
    rw [sortB_mem] at hf
    obtain ⟨p, hp, rfl⟩ := List.mem_map.1 hf
    exact hg.ks p hp
  have hsl : (sourcesL g).length ≤ (usedL g.man).length := kept_len ..
  have hul := usedL_len g.man hg.sm
  have hel := hg.el
  have c1 := outs_calls g mb σ hm hg.kn (by omega) (fun p hp => by have := hg.ks p hp; unfold maxLen; omega)
  have c2 := sources_calls g mb σ hm hg.el hg.sm
  have hgd : g.d mb = .elt (g.cells mb) := rfl
  rw [hgd] at c1 c2 ⊢
  refine ACalls.of_body Tryz.func25 rfl Tryz.ntmps25 (by simp) fun C hC => ?_
  refine Goes.seq ?_
  refine Goes.region [0] fun K hK => ?_; simp (maxSteps := 4000000) only [go_sem, ↓reduceIte, reduceCtorEq, zqa, zqb, zqc, zqd, zqe, zqf, zqg, zqh, zqi, zqj, zqk, zql, zqm]
  refine hK _ _ ?_; clear hK K
  refine Goes.seq ?_
  rcases Bool.eq_false_or_eq_true ((outsL g).any ownB) with hw | hw
  · refine Goes.region [0] fun K hK => ?_; simp (maxSteps := 4000000) only [go_sem, ↓reduceIte, reduceCtorEq, zqa, zqb, zqc, zqd, zqe, zqf, zqg, zqh, zqi, zqj, zqk, zql, zqm]
    refine ⟨_, Tryz.call63, c1.mono ?_⟩
    rintro e σ1 ⟨rfl, rfl⟩
    simp only [go_sem, ↓reduceIte, reduceCtorEq, zqa, zqb, zqc, zqd, zqe, zqf, zqg, zqh, zqi, zqj, zqk, zql, zqm]
    refine ⟨_, Tryz.call34, (containsFunc_str (outsL g) _ [] ownB _ (by omega) (own_tests _ hosz _)).mono ?_⟩
    rintro e σ1 ⟨rfl, rfl⟩
    simp only [go_sem, ↓reduceIte, reduceCtorEq, zqa, zqb, zqc, zqd, zqe, zqf, zqg, zqh, zqi, zqj, zqk, zql, zqm, hw]
    refine hK _ _ ?_; clear hK K
    refine Goes.ret hC Tryz.func25 (by simp [go_sem]) ?_
    simp only [go_sem, ↓reduceIte, reduceCtorEq, zqa, zqb, zqc, zqd, zqe, zqf, zqg, zqh, zqi, zqj, zqk, zql, zqm]
    unfold wrongB; rw [hw]; simp
  · refine Goes.region [0] fun K hK => ?_; simp (maxSteps := 4000000) only [go_sem, ↓reduceIte, reduceCtorEq, zqa, zqb, zqc, zqd, zqe, zqf, zqg, zqh, zqi, zqj, zqk, zql, zqm]
    refine ⟨_, Tryz.call63, c1.mono ?_⟩
    rintro e σ1 ⟨rfl, rfl⟩
    simp only [go_sem, ↓reduceIte, reduceCtorEq, zqa, zqb, zqc, zqd, zqe, zqf, zqg, zqh, zqi, zqj, zqk, zql, zqm]
    refine ⟨_, Tryz.call34, (containsFunc_str (outsL g) _ [] ownB _ (by omega) (own_tests _ hosz _)).mono ?_⟩
    rintro e σ1 ⟨rfl, rfl⟩
    simp only [go_sem, ↓reduceIte, reduceCtorEq, zqa, zqb, zqc, zqd, zqe, zqf, zqg, zqh, zqi, zqj, zqk, zql, zqm, hw]
    refine ⟨_, Tryz.call64, c2.mono ?_⟩
    rintro e σ1 ⟨rfl, rfl⟩
    simp only [go_sem, ↓reduceIte, reduceCtorEq, zqa, zqb, zqc, zqd, zqe, zqf, zqg, zqh, zqi, zqj, zqk, zql, zqm]
    refine ⟨_, Tryz.call34, (containsFunc_str (sourcesL g) _ [] ownB _ (by omega) (own_tests _ hsz _)).mono ?_⟩
    rintro e σ1 ⟨rfl, rfl⟩
    simp only [go_sem, ↓reduceIte, reduceCtorEq, zqa, zqb, zqc, zqd, zqe, zqf, zqg, zqh, zqi, zqj, zqk, zql, zqm]
    refine hK _ _ ?_; clear hK K
    refine Goes.ret hC Tryz.func25 (by simp [go_sem]) ?_
    simp only [go_sem, ↓reduceIte, reduceCtorEq, zqa, zqb, zqc, zqd, zqe, zqf, zqg, zqh, zqi, zqj, zqk, zql, zqm]
    unfold wrongB; rw [hw]; simp
end Go.Ab.S16
set_option linter.unusedSimpArgs false
set_option linter.unusedVariables false
set_option linter.constructorNameAsVariable false
namespace Go.Ab.S16
open Go Go.Proofs
theorem lookL_none {mks : List (ByteArray × Nat)} {f : ByteArray} (h : (lookL mks f).isSome = false) : f ∉ mks.map (·.1) := fun hf => by
  obtain ⟨p, hp, rfl⟩ := List.mem_map.1 hf
  unfold lookL at h
  rw [Option.isSome_map, Option.isSome_eq_false_iff, Option.isNone_iff_eq_none, List.find?_eq_none] at h
  exact h p hp (beq_self_eq_true p.1)
structure MkOk (edges : List XEdge) (n : Nat) (mks : List (ByteArray × Nat)) : Prop where
  nd : (mks.map (·.1)).Nodup
  lt : ∀ p ∈ mks, p.2 < n
  at' : ∀ p ∈ mks, ∃ e ∈ edges, p.1 ∈ e.outs
theorem outsGo_ok {edges : List XEdge} {i : Nat} {e : XEdge} (he : e ∈ edges) {mks : List (ByteArray × Nat)} (h0 : MkOk edges (i + 1) mks) : ∀ j, j ≤ e.outs.length → ∀ mks', outsGo mks i (e.outs.take j) = some mks' → MkOk edges (i + 1) mks' ∧ mks'.length = mks.length + j
  | 0, _, mks', h => by
    have : mks = mks' := by simpa [outsGo] using h
    subst this; exact ⟨h0, rfl⟩
  | j + 1, hj, mks', h => by
    rw [outsGo_succ mks i e.outs j (by omega)] at h
    cases hm : outsGo mks i (e.outs.take j) with
    | none => rw [hm] at h; cases h
    | some m2 =>
      rw [hm, Option.bind_some] at h
      obtain ⟨h1, h2⟩ := outsGo_ok he h0 j (by omega) m2 hm
      split at h
      · cases h
      · rename_i hn
        cases h
        have hn2 := lookL_none (by simpa using hn)
        refine ⟨⟨?_, fun p hp => ?_, fun p hp => ?_⟩, by simp; omega⟩
        · rw [List.map_append, List.nodup_append]
          exact ⟨h1.nd, by simp, fun a ha b hb => by simp at hb; rw [hb]; exact fun e => hn2 (e ▸ ha)⟩
        · rcases List.mem_append.1 hp with hp | hp
          · exact h1.lt p hp
          · simp only [List.mem_singleton] at hp; rw [hp]; exact Nat.lt_succ_self i
        · rcases List.mem_append.1 hp with hp | hp
          · exact h1.at' p hp
          · simp only [List.mem_singleton] at hp; rw [hp]; exact ⟨e, he, List.getElem_mem _⟩
theorem allTo_ok {edges : List XEdge} (hs : ∀ e ∈ edges, e.small) : ∀ n, n ≤ edges.length → ∀ mks, allTo edges n = some mks → MkOk edges n mks ∧ mks.length ≤ 10 * n
  | 0, _, mks, h => by
    have : mks = [] := by simpa [allTo] using h.symm
    subst this
    exact ⟨⟨by simp, by simp, by simp⟩, by simp⟩
  | n + 1, hn, mks, h => by
    rw [allTo_succ edges n (by omega)] at h
    cases hm : allTo edges n with
    | none => rw [hm] at h; cases h
    | some m2 =>
      rw [hm, Option.bind_some] at h
      obtain ⟨h1, h2⟩ := allTo_ok hs n (by omega) m2 hm
      have hmem : edges[n] ∈ edges := List.getElem_mem (by omega)
      have := outsGo_ok hmem (mks := m2) ⟨h1.nd, fun p hp => Nat.lt_succ_of_lt (h1.lt p hp), h1.at'⟩ edges[n].outs.length (Nat.le_refl _) mks (by rw [List.take_length]; exact h)
      have ho := (hs _ hmem).outs
      exact ⟨this.1, by omega⟩
theorem newG_ok {m : XMan} (hl : m.edges.length < 2 ^ 20) (hs : ∀ e ∈ m.edges, e.small) (hd : m.defs.length < 2 ^ 20) (hn : ∀ e ∈ m.edges, ∀ f ∈ e.outs, f.size < 2 ^ 40) {g : XGr} (h : newG m = .inr g) : g.Ok ∧ g.man = m := by
  unfold newG at h
  split at h
  · cases h
  · rename_i mks hm
    dsimp only at h
    split at h
    · cases h
    · cases h
      obtain ⟨h1, h2⟩ := allTo_ok hs m.edges.length (Nat.le_refl _) mks hm
      refine ⟨⟨hl, hs, hd, by simp, fun l hl2 => ?_, h1.nd, by dsimp only; omega, h1.lt, fun p hp => ?_⟩, rfl⟩
      · obtain ⟨e, he, rfl⟩ := List.mem_map.1 hl2
        have h3 := madeL_len mks e.needs e.needs.length (Nat.le_refl _)
        rw [List.take_length] at h3
        have h4 := needs_len e (hs e he)
        exact ⟨by omega, fun n hn2 => by simpa using madeL_lt h1.lt e.needs n hn2⟩
      · obtain ⟨e, he, hp2⟩ := h1.at' p hp
        exact hn e he p.1 hp2
theorem new_calls (m : XMan) (hl : m.edges.length < 2 ^ 20) (hs : ∀ e ∈ m.edges, e.small) (hd : m.defs.length < 2 ^ 20) (σ : Store) :
    ACalls Tryz.prog 20 [m.d] σ (fun e σ' => match newG m with
      | .inl c => e = .ret (.tup [.v (.pointer none), .v (.int .i64 (c : Int))]) ∧ σ' = σ
      | .inr g => ∃ mb, sget mb σ = none ∧ e = .ret (.tup [g.d mb, .v (.int .i64 0)]) ∧ σ' = (mb, .mp (mkE g.mks)) :: σ) := by
  have h0 := new_own m hl hs hd
  cases hn : newG m with
  | inl c =>
    rw [hn] at h0
    have h1 : ACalls Tryz.prog 20 [m.d] [] (fun e σ' => e = .ret (.tup [.v (.pointer none), .v (.int .i64 (c : Int))]) ∧ σ' = []) := h0.forget fun e σ' h => ⟨[], SLe.nil _, h, rfl⟩
    exact h1.still σ
  | inr g =>
    rw [hn] at h0
    have h1 : ACalls Tryz.prog 20 [m.d] [] (fun e σ' => ∃ mb, e = .ret (.tup [g.d mb, .v (.int .i64 0)]) ∧ σ' = [(mb, .mp (mkE g.mks))]) := h0.forget fun e σ' ⟨mb, h2, h3⟩ => ⟨_, SLe.cons h3 (SLe.nil _), mb, h2, rfl⟩
    refine (h1.quiet (σ := σ)).mono ?_
    rintro e σ' ⟨σ1, ⟨mb, rfl, rfl⟩, hq, rfl⟩
    refine ⟨mb, ?_, rfl, rfl⟩
    cases hs2 : sget mb σ with
    | none => rfl
    | some o => exact absurd (sget_self mb (.mp (mkE g.mks)) []) (by have := hq mb; simp [hs2] at this)
end Go.Ab.S16
set_option linter.unusedSimpArgs false
set_option linter.unusedVariables false
set_option linter.constructorNameAsVariable false
namespace Go.Ab.S16
open Go Go.Proofs
def failD : D := .ifc 160 (.agg [])
theorem need_calls (t : Bool) (σ : Store) : ACalls Tryz.prog 81 [.v (.bool t)] σ (fun e σ' => e = (if t = true then .ret (.tup []) else .panic failD) ∧ σ' = σ) := by
  refine ACalls.of_body Tryz.func81 rfl Tryz.ntmps81 (by simp) fun C hC => ?_
  refine Goes.seq ?_
  refine Goes.region [0] fun K hK => ?_; simp (maxSteps := 4000000) only [go_sem, ↓reduceIte, reduceCtorEq, zqa, zqb, zqc, zqd, zqe, zqf, zqg, zqh, zqi, zqj, zqk, zql, zqm]
  refine hK _ _ ?_; clear hK K
  refine Goes.cond rfl (fun h3 => ?_) (fun h3 => ?_)
  · have ht : t = false := by simpa using h3
    subst ht
    refine Goes.region [] fun K hK => ?_; simp (maxSteps := 4000000) only [go_sem, ↓reduceIte, reduceCtorEq, zqa, zqb, zqc, zqd, zqe, zqf, zqg, zqh, zqi, zqj, zqk, zql, zqm]
    exact Pan.of hC Tryz.func81 ⟨rfl, rfl⟩
  · have ht : t = true := by simpa using h3
    refine Goes.skip ?_
    refine Goes.done hC Tryz.func81 (by simp [go_sem]) ?_
    simp only [go_sem, ↓reduceIte, reduceCtorEq, zqa, zqb, zqc, zqd, zqe, zqf, zqg, zqh, zqi, zqj, zqk, zql, zqm]
    rw [ht]; rfl
theorem clone_byteO (xs : List D) (σ : Store) (hp : ∀ x ∈ xs, x.cells.length = 1 ∧ x.plain = true) (hl : xs.length < 2 ^ 40) :
    ACalls Tryz.prog 67 [.slc xs] σ (fun e σ' => ∃ o, GrD o 1 xs σ ∧ e = .ret (.own o 1 xs.length) ∧ σ' = cellsOf o 1 xs ++ σ) := by
  refine ACalls.ret_le (R := fun e σ' => (∃ o, GrD o 1 xs σ ∧ e = .ret (.own o 1 xs.length) ∧ σ' = cellsOf o 1 xs ++ σ) ∨ (xs = [] ∧ e = .ret (.v (.slice none 0 0)) ∧ σ' = σ)) ?_ fun e σ' h => ?_
  rotate_left
  · rcases h with h | ⟨rfl, rfl, rfl⟩
    · exact .inl h
    · exact .inr ⟨_, _, rfl, DLe.nil_own 1, none, GrD.nil _ _, rfl, rfl⟩
  refine ACalls.of_body Tryz.func67 rfl Tryz.ntmps67 (by simp) fun C hC => ?_
  refine Goes.seq ?_
  refine Goes.region [0] fun K hK => ?_; simp (maxSteps := 4000000) only [go_sem, ↓reduceIte, reduceCtorEq, zqa, zqb, zqc, zqd, zqe, zqf, zqg, zqh, zqi, zqj, zqk, zql, zqm]
  refine hK _ _ ?_; clear hK K
  refine Goes.seq ?_
  refine Goes.seq ?_
  refine Goes.region [0] fun K hK => ?_; simp (maxSteps := 4000000) only [go_sem, ↓reduceIte, reduceCtorEq, zqa, zqb, zqc, zqd, zqe, zqf, zqg, zqh, zqi, zqj, zqk, zql, zqm]
  intro t ht
  refine hK _ _ ?_; clear hK K
  refine Goes.cond rfl (fun h4 => ?_) (fun h4 => ?_)
  · have hx : xs = [] := by
      cases xs with
      | nil => rfl
      | cons a l => have := ht (by simp); rw [h4] at this; cases this
    refine Goes.seq ?_
    refine Goes.region [] fun K hK => ?_; simp (maxSteps := 4000000) only [go_sem, ↓reduceIte, reduceCtorEq, zqa, zqb, zqc, zqd, zqe, zqf, zqg, zqh, zqi, zqj, zqk, zql, zqm]
    refine hK _ _ ?_; clear hK K
    refine Goes.ret hC Tryz.func67 (by simp [go_sem]) ?_
    simp only [go_sem, ↓reduceIte, reduceCtorEq, zqa, zqb, zqc, zqd, zqe, zqf, zqg, zqh, zqi, zqj, zqk, zql, zqm]
    exact .inr hx
  · refine Goes.skip ?_
    refine Goes.seq ?_
    refine Goes.region [0] fun K hK => ?_; simp (maxSteps := 4000000) only [go_sem, ↓reduceIte, reduceCtorEq, zqa, zqb, zqc, zqd, zqe, zqf, zqg, zqh, zqi, zqj, zqk, zql, zqm]
    refine ⟨by decide, fun b hb => ⟨⟨hp, by omega, by omega⟩, fun ob hz hf => ?_⟩⟩
    rw [sdel_fresh hb] at hf ⊢
    refine hK _ _ ?_; clear hK K
    refine Goes.ret hC Tryz.func67 (by simp [go_sem]) ?_
    simp only [go_sem, ↓reduceIte, reduceCtorEq, zqa, zqb, zqc, zqd, zqe, zqf, zqg, zqh, zqi, zqj, zqk, zql, zqm]
    exact .inl ⟨ob, ⟨hf, hz⟩, rfl, rfl⟩
/-- What a call hands back, or that it fails. -/
def AR {α : Type} (spec : Option α) (good : α → AEnd → Store → Prop) (σ : Store) : AEnd → Store → Prop := fun e σ' => match spec with
  | some x => good x e σ'
  | none => e = .panic failD ∧ SLe σ σ'
theorem plain_bD (l : List UInt8) : ∀ y ∈ l.map bD, y.cells.length = 1 ∧ y.plain = true := plain_mapF bD 1 (fun _ => ⟨rfl, rfl⟩) l
theorem findO_calls (l : List XFile) (n : ByteArray) (σ : Store) (hl : l.length < 2 ^ 31) (hb : ∀ f ∈ l, f.b.length < 2 ^ 40) :
    ACalls Tryz.prog 27 [.slc (l.map XFile.d), .v (.string n)] σ (fun e σ' => match findF l n with
      | some b => ∃ o, GrD o 1 (b.map bD) σ ∧ e = .ret (.tup [.own o 1 (b.map bD).length, .v (.bool true)]) ∧ σ' = cellsOf o 1 (b.map bD) ++ σ
      | none => e = .ret (.tup [.v (.slice none 0 0), .v (.bool false)]) ∧ σ' = σ) := by
  have hll : (l.map XFile.d).length = l.length := List.length_map ..
  refine ACalls.forget (R := fun e σ' => ∃ b3, sget b3 σ = none ∧ match findF l n with
      | some b => ∃ o, GrD o 1 (b.map bD) ((b3, .arr 1 [.v (.string n)]) :: σ) ∧ e = .ret (.tup [.own o 1 (b.map bD).length, .v (.bool true)]) ∧ σ' = cellsOf o 1 (b.map bD) ++ (b3, .arr 1 [.v (.string n)]) :: σ
      | none => e = .ret (.tup [.v (.slice none 0 0), .v (.bool false)]) ∧ σ' = (b3, .arr 1 [.v (.string n)]) :: σ) ?_ fun e σ' h => ?_
  rotate_left
  · obtain ⟨b3, h3, h⟩ := h
    split at h
    · obtain ⟨o, hg, rfl, rfl⟩ := h
      have hdr := hg.drop h3
      exact ⟨_, hdr.2, o, hdr.1, rfl, rfl⟩
    · obtain ⟨rfl, rfl⟩ := h
      exact ⟨σ, sle_cons (SLe.refl _) h3, rfl, rfl⟩
  refine ACalls.of_body Tryz.func27 rfl Tryz.ntmps27 (by simp) fun C hC => ?_
  refine Goes.seq ?_
  refine Goes.region [0, 1] fun K hK => ?_; simp (maxSteps := 4000000) only [go_sem, ↓reduceIte, reduceCtorEq, zqa, zqb, zqc, zqd, zqe, zqf, zqg, zqh, zqi, zqj, zqk, zql, zqm]
  intro b3 hb3
  refine hK _ _ ?_; clear hK K
  refine Goes.seq ?_
  refine Goes.region [0, 3] fun K hK => ?_; simp (maxSteps := 4000000) only [go_sem, ↓reduceIte, reduceCtorEq, zqa, zqb, zqc, zqd, zqe, zqf, zqg, zqh, zqi, zqj, zqk, zql, zqm]
  refine ⟨_, Tryz.call65, (indexFunc_file l 66 [.ptr b3 1 0 0] (fun f => f.name.toList == n.toList) _ (by omega) ⟨Tryz.call66, fun x _ => find1_calls x n b3 _ (sget_self ..)⟩).mono ?_⟩
  rintro e σ1 ⟨rfl, rfl⟩
  simp only [go_sem, ↓reduceIte, reduceCtorEq, zqa, zqb, zqc, zqd, zqe, zqf, zqg, zqh, zqi, zqj, zqk, zql, zqm]
  refine hK _ _ ?_; clear hK K
  refine Goes.seq ?_
  refine Goes.seq ?_
  rcases findF_idx l n with ⟨h1, h2⟩ | ⟨i, hi, h1, h2⟩
  all_goals rw [h1]
  · refine Goes.region [0, 6] fun K hK => ?_; simp (maxSteps := 4000000) only [go_sem, ↓reduceIte, reduceCtorEq, zqa, zqb, zqc, zqd, zqe, zqf, zqg, zqh, zqi, zqj, zqk, zql, zqm]
    refine hK _ _ ?_; clear hK K
    refine Goes.condT rfl ?_
    refine Goes.seq ?_
    refine Goes.region [] fun K hK => ?_; simp (maxSteps := 4000000) only [go_sem, ↓reduceIte, reduceCtorEq, zqa, zqb, zqc, zqd, zqe, zqf, zqg, zqh, zqi, zqj, zqk, zql, zqm]
    refine hK _ _ ?_; clear hK K
    refine Goes.ret hC Tryz.func27 (by simp [go_sem]) ?_
    simp only [go_sem, ↓reduceIte, reduceCtorEq, zqa, zqb, zqc, zqd, zqe, zqf, zqg, zqh, zqi, zqj, zqk, zql, zqm]
    refine ⟨b3, hb3, ?_⟩
    rw [h2]
  · have hneg : decide ((i : Int) < 0) = false := by simp
    have hg := getD_map_lt XFile.d l i hi
    rw [XFile.d] at hg
    have hi0 : (0 : Int) ≤ (i : Int) := by omega
    have hi1 : (i : Int) < ((l.map XFile.d).length : Int) := by omega
    refine Goes.region [0, 6] fun K hK => ?_; simp (maxSteps := 4000000) only [go_sem, ↓reduceIte, reduceCtorEq, zqa, zqb, zqc, zqd, zqe, zqf, zqg, zqh, zqi, zqj, zqk, zql, zqm, hneg]
    refine hK _ _ ?_; clear hK K
    refine Goes.condF rfl ?_
    refine Goes.skip ?_
    refine Goes.seq ?_
    refine Goes.region [0, 6] fun K hK => ?_; simp (maxSteps := 4000000) only [go_sem, ↓reduceIte, reduceCtorEq, zqa, zqb, zqc, zqd, zqe, zqf, zqg, zqh, zqi, zqj, zqk, zql, zqm, hg, hi0, hi1]
    refine ⟨_, Tryz.call67, (clone_byteO (l[i].b.map bD) _ (plain_bD _) (by rw [List.length_map]; exact hb _ (List.getElem_mem hi))).mono ?_⟩
    rintro e σ1 ⟨o, hgr, rfl, rfl⟩
    simp only [go_sem, ↓reduceIte, reduceCtorEq, zqa, zqb, zqc, zqd, zqe, zqf, zqg, zqh, zqi, zqj, zqk, zql, zqm]
    refine hK _ _ ?_; clear hK K
    refine Goes.ret hC Tryz.func27 (by simp [go_sem]) ?_
    simp only [go_sem, ↓reduceIte, reduceCtorEq, zqa, zqb, zqc, zqd, zqe, zqf, zqg, zqh, zqi, zqj, zqk, zql, zqm]
    refine ⟨b3, hb3, ?_⟩
    rw [h2]
    exact ⟨o, hgr, rfl, rfl⟩
def ckR (args decl : List ByteArray) (files : List XFile) (found : D) (many : Int) : AObj := .arr 5 [.agg [.slc (args.map sD), .slc (decl.map sD), .slc (files.map XFile.d), found, .v (.int .i64 many)]]
/-- A declared file's bytes. -/
def argF (decl : List ByteArray) (files : List XFile) (n : ByteArray) : Option (List UInt8) := (findF files n).bind fun b => if (decl.any fun s => n.toList == s.toList) then some b else none
/-- A row of bytes of one's own is handed back. -/
def ownRet (σ : Store) (b : List UInt8) (e : AEnd) (σ' : Store) : Prop := ∃ o, GrD o 1 (b.map bD) σ ∧ e = .ret (.own o 1 (b.map bD).length) ∧ σ' = cellsOf o 1 (b.map bD) ++ σ
theorem argument_calls (args decl : List ByteArray) (files : List XFile) (found : D) (many : Int) (bc : Nat) (n : ByteArray) (σ : Store) (hc : sget bc σ = some (ckR args decl files found many)) (hl : files.length < 2 ^ 31) (hb : ∀ f ∈ files, f.b.length < 2 ^ 40) (hd : decl.length < 2 ^ 40) :
    ACalls Tryz.prog 133 [.ptr bc 5 0 0, .v (.string n)] σ (AR (argF decl files n) (ownRet σ) σ) := by
  unfold ckR at hc
  have hfind := findO_calls files n σ hl hb
  refine ACalls.of_body Tryz.func133 rfl Tryz.ntmps133 (by simp) fun C hC => ?_
  cases hf : findF files n with
  | none =>
    have ha : argF decl files n = none := by unfold argF; rw [hf]; rfl
    rw [hf] at hfind
    rw [ha] at hC
    refine Goes.seq ?_
    refine Goes.region [0, 1] fun K hK => ?_; simp (maxSteps := 4000000) only [go_sem, ↓reduceIte, reduceCtorEq, zqa, zqb, zqc, zqd, zqe, zqf, zqg, zqh, zqi, zqj, zqk, zql, zqm]
    refine hK _ _ ?_; clear hK K
    refine Goes.seq ?_
    refine Goes.region [0, 1] fun K hK => ?_; simp (maxSteps := 4000000) only [go_sem, ↓reduceIte, reduceCtorEq, zqa, zqb, zqc, zqd, zqe, zqf, zqg, zqh, zqi, zqj, zqk, zql, zqm, hc]
    refine ⟨_, Tryz.call27, hfind.mono ?_⟩
    rintro e σ1 ⟨rfl, rfl⟩
    simp only [go_sem, ↓reduceIte, reduceCtorEq, zqa, zqb, zqc, zqd, zqe, zqf, zqg, zqh, zqi, zqj, zqk, zql, zqm]
    refine hK _ _ ?_; clear hK K
    refine Goes.seq ?_
    refine Goes.region [0, 1, 5, 6] fun K hK => ?_; simp (maxSteps := 4000000) only [go_sem, ↓reduceIte, reduceCtorEq, zqa, zqb, zqc, zqd, zqe, zqf, zqg, zqh, zqi, zqj, zqk, zql, zqm]
    refine ⟨_, Tryz.call81, (need_calls false _).mono ?_⟩
    rintro e σ1 ⟨rfl, rfl⟩
    simp only [go_sem, ↓reduceIte, reduceCtorEq, zqa, zqb, zqc, zqd, zqe, zqf, zqg, zqh, zqi, zqj, zqk, zql, zqm]
    exact Pan.of hC Tryz.func133 ⟨rfl, SLe.refl _⟩
  | some b =>
    rw [hf] at hfind
    cases hin : (decl.any fun s => n.toList == s.toList) with
    | false =>
      have ha : argF decl files n = none := by unfold argF; rw [hf, Option.bind_some, hin]; rfl
      rw [ha] at hC
      refine Goes.seq ?_
      refine Goes.region [0, 1] fun K hK => ?_; simp (maxSteps := 4000000) only [go_sem, ↓reduceIte, reduceCtorEq, zqa, zqb, zqc, zqd, zqe, zqf, zqg, zqh, zqi, zqj, zqk, zql, zqm]
      refine hK _ _ ?_; clear hK K
      refine Goes.seq ?_
      refine Goes.region [0, 1] fun K hK => ?_; simp (maxSteps := 4000000) only [go_sem, ↓reduceIte, reduceCtorEq, zqa, zqb, zqc, zqd, zqe, zqf, zqg, zqh, zqi, zqj, zqk, zql, zqm, hc]
      refine ⟨_, Tryz.call27, hfind.mono ?_⟩
      rintro e σ1 ⟨o, hgr, rfl, rfl⟩
      simp only [go_sem, ↓reduceIte, reduceCtorEq, zqa, zqb, zqc, zqd, zqe, zqf, zqg, zqh, zqi, zqj, zqk, zql, zqm]
      refine hK _ _ ?_; clear hK K
      refine Goes.seq ?_
      have hc2 := hgr.keep hc
      refine Goes.region [0, 1, 5, 6] fun K hK => ?_; simp (maxSteps := 4000000) only [go_sem, ↓reduceIte, reduceCtorEq, zqa, zqb, zqc, zqd, zqe, zqf, zqg, zqh, zqi, zqj, zqk, zql, zqm, hc2]
      refine ⟨_, Tryz.call50, (contains_str decl n _ hd).mono ?_⟩
      rintro e σ1 ⟨rfl, rfl⟩
      simp only [go_sem, ↓reduceIte, reduceCtorEq, zqa, zqb, zqc, zqd, zqe, zqf, zqg, zqh, zqi, zqj, zqk, zql, zqm, hin]
      refine ⟨_, Tryz.call81, (need_calls false _).mono ?_⟩
      rintro e σ1 ⟨rfl, rfl⟩
      simp only [go_sem, ↓reduceIte, reduceCtorEq, zqa, zqb, zqc, zqd, zqe, zqf, zqg, zqh, zqi, zqj, zqk, zql, zqm]
      exact Pan.of hC Tryz.func133 ⟨rfl, hgr.sle⟩
    | true =>
      have ha : argF decl files n = some b := by unfold argF; rw [hf, Option.bind_some, hin]; rfl
      rw [ha] at hC
      refine Goes.seq ?_
      refine Goes.region [0, 1] fun K hK => ?_; simp (maxSteps := 4000000) only [go_sem, ↓reduceIte, reduceCtorEq, zqa, zqb, zqc, zqd, zqe, zqf, zqg, zqh, zqi, zqj, zqk, zql, zqm]
      refine hK _ _ ?_; clear hK K
      refine Goes.seq ?_
      refine Goes.region [0, 1] fun K hK => ?_; simp (maxSteps := 4000000) only [go_sem, ↓reduceIte, reduceCtorEq, zqa, zqb, zqc, zqd, zqe, zqf, zqg, zqh, zqi, zqj, zqk, zql, zqm, hc]
      refine ⟨_, Tryz.call27, hfind.mono ?_⟩
      rintro e σ1 ⟨o, hgr, rfl, rfl⟩
      simp only [go_sem, ↓reduceIte, reduceCtorEq, zqa, zqb, zqc, zqd, zqe, zqf, zqg, zqh, zqi, zqj, zqk, zql, zqm]
      refine hK _ _ ?_; clear hK K
      refine Goes.seq ?_
      have hc2 := hgr.keep hc
      refine Goes.region [0, 1, 5, 6] fun K hK => ?_; simp (maxSteps := 4000000) only [go_sem, ↓reduceIte, reduceCtorEq, zqa, zqb, zqc, zqd, zqe, zqf, zqg, zqh, zqi, zqj, zqk, zql, zqm, hc2]
      refine ⟨_, Tryz.call50, (contains_str decl n _ hd).mono ?_⟩
      rintro e σ1 ⟨rfl, rfl⟩
      simp only [go_sem, ↓reduceIte, reduceCtorEq, zqa, zqb, zqc, zqd, zqe, zqf, zqg, zqh, zqi, zqj, zqk, zql, zqm, hin]
      refine ⟨_, Tryz.call81, (need_calls true _).mono ?_⟩
      rintro e σ1 ⟨rfl, rfl⟩
      simp only [go_sem, ↓reduceIte, reduceCtorEq, zqa, zqb, zqc, zqd, zqe, zqf, zqg, zqh, zqi, zqj, zqk, zql, zqm]
      refine hK _ _ ?_; clear hK K
      refine Goes.seq ?_
      refine Goes.region [5] fun K hK => ?_; simp (maxSteps := 4000000) only [go_sem, ↓reduceIte, reduceCtorEq, zqa, zqb, zqc, zqd, zqe, zqf, zqg, zqh, zqi, zqj, zqk, zql, zqm]
      refine hK _ _ ?_; clear hK K
      refine Goes.ret hC Tryz.func133 (by simp [go_sem]) ?_
      simp only [go_sem, ↓reduceIte, reduceCtorEq, zqa, zqb, zqc, zqd, zqe, zqf, zqg, zqh, zqi, zqj, zqk, zql, zqm]
      exact ⟨o, hgr, rfl, rfl⟩
end Go.Ab.S16
set_option linter.unusedSimpArgs false
set_option linter.unusedVariables false
set_option linter.constructorNameAsVariable false
namespace Go.Ab.S16
open Go Go.Proofs
theorem grd_dropO {ob o2 : Option Nat} {sa sb : Nat} {xs ys : List D} {ρ : Store} (h : GrD ob sa xs (cellsOf o2 sb ys ++ ρ)) (h2 : GrD o2 sb ys ρ) : GrD ob sa xs ρ ∧ SLe (cellsOf ob sa xs ++ ρ) (cellsOf ob sa xs ++ (cellsOf o2 sb ys ++ ρ)) := by
  cases o2 with
  | none => exact ⟨h, SLe.refl _⟩
  | some c => exact h.drop (h2.fresh c rfl)
theorem grd_oget2 {o o2 : Option Nat} {sz sb : Nat} {xs ys : List D} {ρ : Store} (h : GrD o sz xs ρ) (h2 : GrD o2 sb ys (cellsOf o sz xs ++ ρ)) : oget sz o (cellsOf o2 sb ys ++ (cellsOf o sz xs ++ ρ)) = some xs := by
  cases o with
  | none => rw [h.zero rfl]; rfl
  | some c =>
    have hk := h2.keep (b := c) (x := .arr sz xs) (sget_self c _ _)
    simp [oget, hk]
theorem grd_sdelo2 {o o2 : Option Nat} {sz sb : Nat} {xs ys : List D} {ρ : Store} (h : GrD o sz xs ρ) (h2 : GrD o2 sb ys (cellsOf o sz xs ++ ρ)) : sdelo o (cellsOf o2 sb ys ++ (cellsOf o sz xs ++ ρ)) = cellsOf o2 sb ys ++ ρ := by
  cases o with
  | none => rfl
  | some c =>
    cases o2 with
    | none => exact h.sdel
    | some a =>
      have hac : c ≠ a := fun e => by
        have := h2.fresh a rfl
        rw [← e] at this
        change sget c ((c, _) :: _) = none at this
        rw [sget_self] at this; cases this
      have hd := h.sdel
      change sdel c ((c, _) :: ρ) = ρ at hd
      show sdel c ((a, _) :: (c, _) :: ρ) = (a, _) :: ρ
      simp only [sdel, if_neg hac, if_true] at hd ⊢
      rw [hd]
/-- The bytes of all arguments. -/
def allB (decl : List ByteArray) (files : List XFile) : List ByteArray → List UInt8 → Option (List UInt8)
  | [], out => some out
  | n :: r, out => (argF decl files n).bind fun b => if out.length + b.length ≤ 131072 then allB decl files r (out ++ b) else none
theorem argF_len {decl : List ByteArray} {files : List XFile} {n : ByteArray} {b : List UInt8} {B : Nat} (hb : ∀ f ∈ files, f.b.length < B) (h : argF decl files n = some b) : b.length < B := by
  unfold argF findF at h
  obtain ⟨x, hx, h2⟩ := Option.bind_eq_some_iff.1 h
  obtain ⟨f, hf, rfl⟩ := Option.map_eq_some_iff.1 hx
  split at h2
  · cases h2; exact hb f (List.mem_of_find?_eq_some hf)
  · cases h2
theorem all_calls (args decl : List ByteArray) (files : List XFile) (found : D) (many : Int) (bc : Nat) (σ : Store) (hc : sget bc σ = some (ckR args decl files found many)) (hl : files.length < 2 ^ 31) (hb : ∀ f ∈ files, f.b.length < 2 ^ 40) (hd : decl.length < 2 ^ 40) (ha : args.length < 2 ^ 40) :
    ACalls Tryz.prog 130 [.ptr bc 5 0 0] σ (AR (allB decl files args []) (ownRet σ) σ) := by
  have hal : (args.map sD).length = args.length := List.length_map ..
  have hcc := hc
  unfold ckR at hc
  refine ACalls.of_body Tryz.func130 rfl Tryz.ntmps130 (by simp) fun C hC => ?_
  refine Goes.seq ?_
  refine Goes.region [0] fun K hK => ?_; simp (maxSteps := 4000000) only [go_sem, ↓reduceIte, reduceCtorEq, zqa, zqb, zqc, zqd, zqe, zqf, zqg, zqh, zqi, zqj, zqk, zql, zqm]
  refine hK _ _ ?_; clear hK K
  refine Goes.seq ?_
  refine Goes.region [0] fun K hK => ?_; simp (maxSteps := 4000000) only [go_sem, ↓reduceIte, reduceCtorEq, zqa, zqb, zqc, zqd, zqe, zqf, zqg, zqh, zqi, zqj, zqk, zql, zqm]
  refine hK _ _ ?_; clear hK K
  refine Goes.seq ?_
  refine Goes.seq ?_
  refine Goes.region [0, 3] fun K hK => ?_; simp (maxSteps := 4000000) only [go_sem, ↓reduceIte, reduceCtorEq, zqa, zqb, zqc, zqd, zqe, zqf, zqg, zqh, zqi, zqj, zqk, zql, zqm, hc, hal]
  refine hK _ _ ?_; clear hK K
  refine Goes.block ?_
  refine Goes.nilOwn 3 1 rfl ?_
  refine Goes.rebase [0, 3, 9, 10, 11] ?_
  simp only [go_sem, ↓reduceIte, reduceCtorEq, zqa, zqb, zqc, zqd, zqe, zqf, zqg, zqh, zqi, zqj, zqk, zql, zqm]
  refine Goes.while (fun (i : Nat) env' σ'' => ∃ o : Option Nat, ∃ out : List UInt8, (i ≤ args.length ∧ GrD o 1 (out.map bD) σ ∧ allB decl files (args.drop i) out = allB decl files args [] ∧ out.length ≤ 131072) ∧ env' = [(0, .ptr bc 5 0 0), (3, .own o 1 out.length), (9, .slc (args.map sD)), (10, .v (.int .i64 (args.length : Int))), (11, .v (.int .i64 (i : Int)))] ∧ σ'' = cellsOf o 1 (out.map bD) ++ σ) (fun (i : Nat) => args.length - i) 0 ⟨none, [], ⟨by omega, GrD.nil _ _, rfl, by simp⟩, rfl, rfl⟩ ?_
  rintro i env' σ'' ⟨o, out, ⟨hi, hgr, hfin, hlo⟩, rfl, rfl⟩ ih
  have ih1 := ih
  refine Goes.seq ?_
  refine Goes.region [0, 3, 9, 10, 11] fun K hK => ?_; simp (maxSteps := 4000000) only [go_sem, ↓reduceIte, reduceCtorEq, zqa, zqb, zqc, zqd, zqe, zqf, zqg, zqh, zqi, zqj, zqk, zql, zqm]
  refine hK _ _ ?_; clear hK K
  refine Goes.seq ?_
  refine Goes.cond rfl (fun h12 => ?_) (fun h12 => ?_)
  · have hlt : i < args.length := by simpa using h12
    have hg := getD_map_lt sD args i hlt
    rw [sD] at hg
    have hi0 : (0 : Int) ≤ (i : Int) := by omega
    have hi1 : (i : Int) < ((args.map sD).length : Int) := by omega
    have hc2 := hgr.keep hcc
    have harg := argument_calls args decl files found many bc args[i] _ hc2 hl hb hd
    have hml : (out.map bD).length = out.length := List.length_map ..
    have htk : List.take out.length (out.map bD) = out.map bD := List.take_of_length_le (by omega)
    rw [List.drop_eq_getElem_cons hlt, allB] at hfin
    refine Goes.skip ?_
    refine Goes.seq ?_
    refine Goes.block ?_
    refine Goes.seq ?_
    refine Goes.region [0, 3, 9, 10, 11] fun K hK => ?_; simp (maxSteps := 4000000) only [go_sem, ↓reduceIte, reduceCtorEq, zqa, zqb, zqc, zqd, zqe, zqf, zqg, zqh, zqi, zqj, zqk, zql, zqm, hg, hi0, hi1]
    refine hK _ _ ?_; clear hK K
    refine Goes.seq ?_
    rcases hAF : argF decl files args[i] with _ | bs
    all_goals rw [hAF] at harg hfin
    · refine Goes.region [0, 3, 5, 9, 10, 11] fun K hK => ?_; simp (maxSteps := 4000000) only [go_sem, ↓reduceIte, reduceCtorEq, zqa, zqb, zqc, zqd, zqe, zqf, zqg, zqh, zqi, zqj, zqk, zql, zqm]
      refine ⟨_, Tryz.call133, harg.mono ?_⟩
      rintro e σ1 ⟨rfl, hsl⟩
      simp only [go_sem, ↓reduceIte, reduceCtorEq, zqa, zqb, zqc, zqd, zqe, zqf, zqg, zqh, zqi, zqj, zqk, zql, zqm]
      exact Pan.of hC Tryz.func130 (by rw [← hfin]; exact ⟨rfl, fun b x hb => hsl b x (hgr.sle b x hb)⟩)
    · have hbl := argF_len hb hAF
      rw [Option.bind_some] at hfin
      refine Goes.region [0, 3, 5, 9, 10, 11] fun K hK => ?_; simp (maxSteps := 4000000) only [go_sem, ↓reduceIte, reduceCtorEq, zqa, zqb, zqc, zqd, zqe, zqf, zqg, zqh, zqi, zqj, zqk, zql, zqm]
      refine ⟨_, Tryz.call133, harg.mono ?_⟩
      rintro e σ1 ⟨o2, hgr2, rfl, rfl⟩
      have ho := grd_oget2 hgr hgr2
      have hd2 := grd_sdelo2 hgr hgr2
      have hs2 := hgr2.oget
      have hml2 : (bs.map bD).length = bs.length := List.length_map ..
      have htk2 : List.take (bs.map bD).length (bs.map bD) = bs.map bD := List.take_of_length_le (Nat.le_refl _)
      simp only [go_sem, ↓reduceIte, reduceCtorEq, zqa, zqb, zqc, zqd, zqe, zqf, zqg, zqh, zqi, zqj, zqk, zql, zqm, ho, hd2, hs2, htk, htk2, Nat.le_refl]
      refine ⟨⟨by omega, plain_bD _, by omega, by omega⟩, fun ob hz hf => ?_⟩
      have hgo : GrD ob 1 (out.map bD ++ bs.map bD) (cellsOf o2 1 (bs.map bD) ++ σ) := ⟨hf, hz⟩
      have hg2 : GrD o2 1 (bs.map bD) σ := ⟨fun c hc => by
        have h6 := hgr2.fresh c hc
        cases o with
        | none => exact h6
        | some k =>
          change sget c ((k, _) :: σ) = none at h6
          exact (sget_none h6).2, hgr2.zero⟩
      have hdr := grd_dropO hgo hg2
      rw [← List.map_append] at hdr ⊢
      refine hK _ _ ?_; clear hK K
      refine Goes.le (ELe.refl _) hdr.2 ?_
      have hml3 : ((out ++ bs).map bD).length = out.length + bs.length := by simp
      rcases Nat.lt_or_ge 131072 (out.length + bs.length) with hbig | hbig
      · have hdec : decide (((out.length + bs.length : Nat) : Int) ≤ 131072) = false := by simp; omega
        refine Goes.region [0, 3, 9, 10, 11] fun K hK => ?_; simp (maxSteps := 4000000) only [go_sem, ↓reduceIte, reduceCtorEq, zqa, zqb, zqc, zqd, zqe, zqf, zqg, zqh, zqi, zqj, zqk, zql, zqm, hml3, hdec]
        refine ⟨_, Tryz.call81, (need_calls false _).mono ?_⟩
        rintro e σ1 ⟨rfl, rfl⟩
        simp only [go_sem, ↓reduceIte, reduceCtorEq, zqa, zqb, zqc, zqd, zqe, zqf, zqg, zqh, zqi, zqj, zqk, zql, zqm]
        exact Pan.of hC Tryz.func130 (by rw [← hfin, if_neg (by omega)]; exact ⟨rfl, hdr.1.sle⟩)
      · have hdec : decide (((out.length + bs.length : Nat) : Int) ≤ 131072) = true := by simp; omega
        refine Goes.region [0, 3, 9, 10, 11] fun K hK => ?_; simp (maxSteps := 4000000) only [go_sem, ↓reduceIte, reduceCtorEq, zqa, zqb, zqc, zqd, zqe, zqf, zqg, zqh, zqi, zqj, zqk, zql, zqm, hml3, hdec]
        refine ⟨_, Tryz.call81, (need_calls true _).mono ?_⟩
        rintro e σ1 ⟨rfl, rfl⟩
        simp only [go_sem, ↓reduceIte, reduceCtorEq, zqa, zqb, zqc, zqd, zqe, zqf, zqg, zqh, zqi, zqj, zqk, zql, zqm]
        refine hK _ _ ?_; clear hK K
        refine Goes.inBlock ?_
        refine Goes.region [0, 3, 9, 10, 11] fun K hK => ?_; simp (maxSteps := 4000000) only [go_sem, ↓reduceIte, reduceCtorEq, zqa, zqb, zqc, zqd, zqe, zqf, zqg, zqh, zqi, zqj, zqk, zql, zqm]
        refine hK _ _ ?_; clear hK K
        refine Goes.rebase [0, 3, 9, 10, 11] ?_
        simp only [go_sem, ↓reduceIte, reduceCtorEq, zqa, zqb, zqc, zqd, zqe, zqf, zqg, zqh, zqi, zqj, zqk, zql, zqm]
        rw [wrap_succ i (by omega)]
        rw [if_pos hbig] at hfin
        refine ih (i + 1) _ _ ⟨ob, out ++ bs, ⟨by omega, hdr.1, hfin, by simp; omega⟩, ?_, rfl⟩ (by omega)
        simp only [List.length_append, List.length_map]
  · have hie : i = args.length := by simp at h12; omega
    subst hie
    rw [List.drop_length, allB] at hfin
    refine Goes.exit rfl ?_
    refine Goes.seq ?_
    refine Goes.region [3] fun K hK => ?_; simp (maxSteps := 4000000) only [go_sem, ↓reduceIte, reduceCtorEq, zqa, zqb, zqc, zqd, zqe, zqf, zqg, zqh, zqi, zqj, zqk, zql, zqm]
    refine hK _ _ ?_; clear hK K
    refine Goes.ret hC Tryz.func130 (by simp [go_sem]) ?_
    simp only [go_sem, ↓reduceIte, reduceCtorEq, zqa, zqb, zqc, zqd, zqe, zqf, zqg, zqh, zqi, zqj, zqk, zql, zqm]
    rw [← hfin]
    exact ⟨o, hgr, by rw [List.length_map], rfl⟩
end Go.Ab.S16
set_option linter.unusedSimpArgs false
set_option linter.unusedVariables false
set_option linter.constructorNameAsVariable false
namespace Go.Ab.S16
open Go Go.Proofs
/-- The one argument's bytes. -/
def oneB (decl : List ByteArray) (files : List XFile) : List ByteArray → Option (List UInt8)
  | [n] => argF decl files n
  | _ => none
theorem one_calls (args decl : List ByteArray) (files : List XFile) (found : D) (many : Int) (bc : Nat) (σ : Store) (hc : sget bc σ = some (ckR args decl files found many)) (hl : files.length < 2 ^ 31) (hb : ∀ f ∈ files, f.b.length < 2 ^ 40) (hd : decl.length < 2 ^ 40) (ha : args.length < 2 ^ 40) :
    ACalls Tryz.prog 131 [.ptr bc 5 0 0] σ (AR (oneB decl files args) (ownRet σ) σ) := by
  have hal : (args.map sD).length = args.length := List.length_map ..
  have hcc := hc
  unfold ckR at hc
  refine ACalls.of_body Tryz.func131 rfl Tryz.ntmps131 (by simp) fun C hC => ?_
  rcases Nat.decEq args.length 1 with hne | he
  · have hone : oneB decl files args = none := by
      unfold oneB
      split
      · exact absurd rfl hne
      · rfl
    have hdec : ((args.length : Int) == 1) = false := by simp; omega
    rw [hone] at hC
    refine Goes.seq ?_
    refine Goes.region [0] fun K hK => ?_; simp (maxSteps := 4000000) only [go_sem, ↓reduceIte, reduceCtorEq, zqa, zqb, zqc, zqd, zqe, zqf, zqg, zqh, zqi, zqj, zqk, zql, zqm]
    refine hK _ _ ?_; clear hK K
    refine Goes.seq ?_
    refine Goes.region [0] fun K hK => ?_; simp (maxSteps := 4000000) only [go_sem, ↓reduceIte, reduceCtorEq, zqa, zqb, zqc, zqd, zqe, zqf, zqg, zqh, zqi, zqj, zqk, zql, zqm, hc, hal, hdec]
    refine ⟨_, Tryz.call81, (need_calls false _).mono ?_⟩
    rintro e σ1 ⟨rfl, rfl⟩
    simp only [go_sem, ↓reduceIte, reduceCtorEq, zqa, zqb, zqc, zqd, zqe, zqf, zqg, zqh, zqi, zqj, zqk, zql, zqm]
    exact Pan.of hC Tryz.func131 ⟨rfl, SLe.refl _⟩
  · obtain ⟨n, rfl⟩ : ∃ n, args = [n] := by
      match args, he with
      | [n], _ => exact ⟨n, rfl⟩
    have harg := argument_calls [n] decl files found many bc n _ hcc hl hb hd
    have hone : oneB decl files [n] = argF decl files n := rfl
    have hdec : (((([n] : List ByteArray).length : Nat) : Int) == 1) = true := rfl
    have hmap : ([n] : List ByteArray).map sD = [.v (.string n)] := rfl
    rw [hone] at hC
    refine Goes.seq ?_
    refine Goes.region [0] fun K hK => ?_; simp (maxSteps := 4000000) only [go_sem, ↓reduceIte, reduceCtorEq, zqa, zqb, zqc, zqd, zqe, zqf, zqg, zqh, zqi, zqj, zqk, zql, zqm]
    refine hK _ _ ?_; clear hK K
    refine Goes.seq ?_
    refine Goes.region [0] fun K hK => ?_; simp (maxSteps := 4000000) only [go_sem, ↓reduceIte, reduceCtorEq, zqa, zqb, zqc, zqd, zqe, zqf, zqg, zqh, zqi, zqj, zqk, zql, zqm, hc, hal, hdec]
    refine ⟨_, Tryz.call81, (need_calls true _).mono ?_⟩
    rintro e σ1 ⟨rfl, rfl⟩
    simp only [go_sem, ↓reduceIte, reduceCtorEq, zqa, zqb, zqc, zqd, zqe, zqf, zqg, zqh, zqi, zqj, zqk, zql, zqm]
    refine hK _ _ ?_; clear hK K
    refine Goes.seq ?_
    rcases hAF : argF decl files n with _ | bs
    all_goals rw [hAF] at harg hC
    · refine Goes.region [0] fun K hK => ?_; simp (maxSteps := 4000000) only [go_sem, ↓reduceIte, reduceCtorEq, zqa, zqb, zqc, zqd, zqe, zqf, zqg, zqh, zqi, zqj, zqk, zql, zqm, hc, hmap]
      refine ⟨by decide, ?_⟩
      refine ⟨_, Tryz.call133, harg.mono ?_⟩
      rintro e σ1 ⟨rfl, hsl⟩
      simp only [go_sem, ↓reduceIte, reduceCtorEq, zqa, zqb, zqc, zqd, zqe, zqf, zqg, zqh, zqi, zqj, zqk, zql, zqm]
      exact Pan.of hC Tryz.func131 ⟨rfl, hsl⟩
    · refine Goes.region [0] fun K hK => ?_; simp (maxSteps := 4000000) only [go_sem, ↓reduceIte, reduceCtorEq, zqa, zqb, zqc, zqd, zqe, zqf, zqg, zqh, zqi, zqj, zqk, zql, zqm, hc, hmap]
      refine ⟨by decide, ?_⟩
      refine ⟨_, Tryz.call133, harg.mono ?_⟩
      rintro e σ1 ⟨o2, hgr2, rfl, rfl⟩
      simp only [go_sem, ↓reduceIte, reduceCtorEq, zqa, zqb, zqc, zqd, zqe, zqf, zqg, zqh, zqi, zqj, zqk, zql, zqm]
      refine hK _ _ ?_; clear hK K
      refine Goes.ret hC Tryz.func131 (by simp [go_sem]) ?_
      simp only [go_sem, ↓reduceIte, reduceCtorEq, zqa, zqb, zqc, zqd, zqe, zqf, zqg, zqh, zqi, zqj, zqk, zql, zqm]
      exact ⟨o2, hgr2, rfl, rfl⟩
theorem cat_calls (args decl : List ByteArray) (files : List XFile) (found : D) (many : Int) (bc : Nat) (σ : Store) (hc : sget bc σ = some (ckR args decl files found many)) (hl : files.length < 2 ^ 31) (hb : ∀ f ∈ files, f.b.length < 2 ^ 40) (hd : decl.length < 2 ^ 40) (ha : args.length < 2 ^ 40) :
    ACalls Tryz.prog 106 [.ptr bc 5 0 0] σ (AR (allB decl files args []) (ownRet σ) σ) := by
  have hall := all_calls args decl files found many bc σ hc hl hb hd ha
  refine ACalls.of_body Tryz.func106 rfl Tryz.ntmps106 (by simp) fun C hC => ?_
  refine Goes.seq ?_
  refine Goes.region [0] fun K hK => ?_; simp (maxSteps := 4000000) only [go_sem, ↓reduceIte, reduceCtorEq, zqa, zqb, zqc, zqd, zqe, zqf, zqg, zqh, zqi, zqj, zqk, zql, zqm]
  refine hK _ _ ?_; clear hK K
  refine Goes.seq ?_
  rcases hAF : allB decl files args [] with _ | bs
  all_goals rw [hAF] at hall hC
  · refine Goes.region [0] fun K hK => ?_; simp (maxSteps := 4000000) only [go_sem, ↓reduceIte, reduceCtorEq, zqa, zqb, zqc, zqd, zqe, zqf, zqg, zqh, zqi, zqj, zqk, zql, zqm]
    refine ⟨_, Tryz.call130, hall.mono ?_⟩
    rintro e σ1 ⟨rfl, hsl⟩
    simp only [go_sem, ↓reduceIte, reduceCtorEq, zqa, zqb, zqc, zqd, zqe, zqf, zqg, zqh, zqi, zqj, zqk, zql, zqm]
    exact Pan.of hC Tryz.func106 ⟨rfl, hsl⟩
  · refine Goes.region [0] fun K hK => ?_; simp (maxSteps := 4000000) only [go_sem, ↓reduceIte, reduceCtorEq, zqa, zqb, zqc, zqd, zqe, zqf, zqg, zqh, zqi, zqj, zqk, zql, zqm]
    refine ⟨_, Tryz.call130, hall.mono ?_⟩
    rintro e σ1 ⟨o2, hgr2, rfl, rfl⟩
    simp only [go_sem, ↓reduceIte, reduceCtorEq, zqa, zqb, zqc, zqd, zqe, zqf, zqg, zqh, zqi, zqj, zqk, zql, zqm]
    refine hK _ _ ?_; clear hK K
    refine Goes.ret hC Tryz.func106 (by simp [go_sem]) ?_
    simp only [go_sem, ↓reduceIte, reduceCtorEq, zqa, zqb, zqc, zqd, zqe, zqf, zqg, zqh, zqi, zqj, zqk, zql, zqm]
    exact ⟨o2, hgr2, rfl, rfl⟩
theorem fail_calls (bc : Nat) (σ : Store) : ACalls Tryz.prog 111 [.ptr bc 5 0 0] σ (AR (α := List UInt8) none (ownRet σ) σ) := by
  refine ACalls.of_body Tryz.func111 rfl Tryz.ntmps111 (by simp) fun C hC => ?_
  refine Goes.seq ?_
  refine Goes.region [] fun K hK => ?_; simp (maxSteps := 4000000) only [go_sem, ↓reduceIte, reduceCtorEq, zqa, zqb, zqc, zqd, zqe, zqf, zqg, zqh, zqi, zqj, zqk, zql, zqm]
  refine hK _ _ ?_; clear hK K
  refine Goes.seq ?_
  refine Goes.region [] fun K hK => ?_; simp (maxSteps := 4000000) only [go_sem, ↓reduceIte, reduceCtorEq, zqa, zqb, zqc, zqd, zqe, zqf, zqg, zqh, zqi, zqj, zqk, zql, zqm]
  refine ⟨_, Tryz.call81, (need_calls false _).mono ?_⟩
  rintro e σ1 ⟨rfl, rfl⟩
  simp only [go_sem, ↓reduceIte, reduceCtorEq, zqa, zqb, zqc, zqd, zqe, zqf, zqg, zqh, zqi, zqj, zqk, zql, zqm]
  exact Pan.of hC Tryz.func111 ⟨rfl, SLe.refl _⟩
/-- The arguments, a blank between them, and an end of line. -/
def putB (args : List ByteArray) : List UInt8 := Lib.join (args.map (·.data.toList)) [32] ++ [10]
theorem put_calls (args decl : List ByteArray) (files : List XFile) (found : D) (many : Int) (bc : Nat) (σ : Store) (hc : sget bc σ = some (ckR args decl files found many)) (ha : args.length < 2 ^ 30) (hj : (Lib.join (args.map (·.data.toList)) [32]).length < 2 ^ 45) :
    ACalls Tryz.prog 109 [.ptr bc 5 0 0] σ (ownRet σ (putB args)) := by
  unfold ckR at hc
  have hjc := join_calls args ⟨#[32]⟩ σ (by omega) (by
    show (Lib.join (args.map (·.data.toList)) [32]).length ≤ _
    omega)
  refine ACalls.of_body Tryz.func109 rfl Tryz.ntmps109 (by simp) fun C hC => ?_
  refine Goes.seq ?_
  refine Goes.region [0] fun K hK => ?_; simp (maxSteps := 4000000) only [go_sem, ↓reduceIte, reduceCtorEq, zqa, zqb, zqc, zqd, zqe, zqf, zqg, zqh, zqi, zqj, zqk, zql, zqm]
  refine hK _ _ ?_; clear hK K
  refine Goes.seq ?_
  have hsz : (⟨(Lib.join (args.map (·.data.toList)) [32]).toArray⟩ : ByteArray).size + (⟨#[10]⟩ : ByteArray).size < 4611686018427387904 := by
    show (Lib.join (args.map (·.data.toList)) [32]).toArray.size + 1 < _
    simp; omega
  have hadd := bin_sadd (P := Tryz.prog) (T := 9) (x := .tmp 7) (y := .const (.string ⟨#[10]⟩)) ⟨(Lib.join (args.map (·.data.toList)) [32]).toArray⟩ ⟨#[10]⟩ hsz
  refine Goes.region [0] fun K hK => ?_; simp (maxSteps := 4000000) only [go_sem, ↓reduceIte, reduceCtorEq, zqa, zqb, zqc, zqd, zqe, zqf, zqg, zqh, zqi, zqj, zqk, zql, zqm, hc]
  refine ⟨_, Tryz.call114, hjc.mono ?_⟩
  rintro e σ1 ⟨rfl, rfl⟩
  simp only [go_sem, ↓reduceIte, reduceCtorEq, zqa, zqb, zqc, zqd, zqe, zqf, zqg, zqh, zqi, zqj, zqk, zql, zqm, hadd]
  refine ⟨by simp; omega, fun b hb => ?_⟩
  have e1 : ((⟨(Lib.join (args.map (fun x : ByteArray => x.data.toList)) [32]).toArray⟩ : ByteArray) ++ ⟨#[10]⟩).data.toList = putB args := by
    rw [ByteArray.data_append]
    simp [putB]
  have e2 : (Lib.join (args.map (fun x : ByteArray => x.data.toList)) [32]).toArray.size + (#[10] : Array UInt8).size = ((putB args).map bD).length := by simp [putB]
  rw [e1, e2]
  refine hK _ _ ?_; clear hK K
  refine Goes.ret hC Tryz.func109 (by simp [go_sem]) ?_
  simp only [go_sem, ↓reduceIte, reduceCtorEq, zqa, zqb, zqc, zqd, zqe, zqf, zqg, zqh, zqi, zqj, zqk, zql, zqm]
  exact ⟨some b, ⟨fun c hc => by cases hc; exact hb, nofun⟩, rfl, rfl⟩
end Go.Ab.S16
set_option linter.unusedSimpArgs false
set_option linter.unusedVariables false
set_option linter.constructorNameAsVariable false
namespace Go.Ab.S16
open Go Go.Proofs
/-- A row that is turned round at its i outermost places on either side. -/
def revAt (l : List UInt8) (i : Nat) : List UInt8 := (List.range l.length).map fun k => if k < i ∨ l.length ≤ k + i then l.getD (l.length - 1 - k) 0 else l.getD k 0
theorem revAt_len (l : List UInt8) (i : Nat) : (revAt l i).length = l.length := by simp [revAt]
theorem revAt_zero (l : List UInt8) : revAt l 0 = l := by
  apply List.ext_getElem
  · simp [revAt]
  · intro k h1 h2
    simp only [revAt, List.getElem_map, List.getElem_range]
    rw [if_neg (by omega)]
    exact getD_lt l k 0 h2
theorem revAt_get (l : List UInt8) (i k : Nat) (h1 : i ≤ k) (h2 : k + i < l.length) : (revAt l i)[k]'(by rw [revAt_len]; omega) = l[k] := by
  simp only [revAt, List.getElem_map, List.getElem_range]
  rw [if_neg (by omega)]
  exact getD_lt l k 0 (by omega)
theorem revAt_set (l : List UInt8) (i : Nat) (h : 2 * i + 1 < l.length) : ((revAt l i).set i l[l.length - 1 - i]).set (l.length - 1 - i) l[i] = revAt l (i + 1) := by
  apply List.ext_getElem
  · simp [revAt]
  · intro k h1 h2
    rw [revAt_len] at h2
    rw [List.getElem_set, List.getElem_set]
    by_cases hk : l.length - 1 - i = k
    · rw [if_pos hk]
      simp only [revAt, List.getElem_map, List.getElem_range]
      rw [if_pos (by omega), show l.length - 1 - k = i by omega]
      exact (getD_lt l i 0 (by omega)).symm
    · rw [if_neg hk]
      by_cases hk2 : i = k
      · rw [if_pos hk2]
        simp only [revAt, List.getElem_map, List.getElem_range]
        rw [if_pos (by omega), ← hk2]
        exact (getD_lt l (l.length - 1 - i) 0 (by omega)).symm
      · rw [if_neg hk2]
        simp only [revAt, List.getElem_map, List.getElem_range]
        by_cases hc : k < i ∨ l.length ≤ k + i
        · rw [if_pos hc, if_pos (by omega)]
        · rw [if_neg hc, if_neg (by omega)]
theorem revAt_all (l : List UInt8) (i : Nat) (h : l.length ≤ 2 * i + 1) (hi : 2 * i ≤ l.length) : revAt l i = l.reverse := by
  apply List.ext_getElem
  · simp [revAt]
  · intro k h1 h2
    have hk : k < l.length := by simpa using h2
    rw [List.getElem_reverse]
    simp only [revAt, List.getElem_map, List.getElem_range]
    by_cases hc : k < i ∨ l.length ≤ k + i
    · rw [if_pos hc]; exact getD_lt l _ 0 (by omega)
    · rw [if_neg hc]
      rw [getD_lt l k 0 hk]
      congr 1
      omega
theorem reverse_own (b : Nat) (l : List UInt8) (ρ : Store) (hl : l.length < 2 ^ 40) :
    ACalls Tryz.prog 132 [.own (some b) 1 l.length] ((b, .arr 1 (l.map bD)) :: ρ) (fun e σ' => e = .ret (.tup []) ∧ σ' = (b, .arr 1 (l.reverse.map bD)) :: ρ) := by
  have hw0 : IntKind.i64.wrap ((l.length : Int) - 1) = (l.length : Int) - 1 - ((0 : Nat) : Int) := by rw [IntKind.wrap_i64]; omega
  refine ACalls.of_body Tryz.func132 rfl Tryz.ntmps132 (by simp) fun C hC => ?_
  refine Goes.seq ?_
  refine Goes.region [0] fun K hK => ?_; simp (maxSteps := 4000000) only [go_sem, ↓reduceIte, reduceCtorEq, zqa, zqb, zqc, zqd, zqe, zqf, zqg, zqh, zqi, zqj, zqk, zql, zqm]
  refine hK _ _ ?_; clear hK K
  refine Goes.block ?_
  refine Goes.rebase [0, 2, 3] ?_
  simp only [go_sem, ↓reduceIte, reduceCtorEq, zqa, zqb, zqc, zqd, zqe, zqf, zqg, zqh, zqi, zqj, zqk, zql, zqm]
  refine Goes.while (fun (i : Nat) env' σ'' => (2 * i ≤ l.length) ∧ env' = [(0, .own (some b) 1 l.length), (2, .v (.int .i64 (i : Int))), (3, .v (.int .i64 ((l.length : Int) - 1 - i)))] ∧ σ'' = (b, .arr 1 ((revAt l i).map bD)) :: ρ) (fun (i : Nat) => l.length - i) 0 ⟨by omega, by rw [hw0]; rfl, by rw [revAt_zero]⟩ ?_
  rintro i env' σ'' ⟨hi, rfl, rfl⟩ ih
  have ih1 := ih
  refine Goes.seq ?_
  refine Goes.seq ?_
  refine Goes.region [0, 2, 3] fun K hK => ?_; simp (maxSteps := 4000000) only [go_sem, ↓reduceIte, reduceCtorEq, zqa, zqb, zqc, zqd, zqe, zqf, zqg, zqh, zqi, zqj, zqk, zql, zqm]
  refine hK _ _ ?_; clear hK K
  refine Goes.cond rfl (fun h9 => ?_) (fun h9 => ?_)
  · have hlt : (i : Int) < (l.length : Int) - 1 - i := by simpa using h9
    have hlt2 : 2 * i + 1 < l.length := by omega
    have hjn : (l.length : Int) - 1 - i = ((l.length - 1 - i : Nat) : Int) := by omega
    have hi0 : (0 : Int) ≤ (i : Int) := by omega
    have hi1 : (i : Int) < (l.length : Int) := by omega
    have hj0 : (0 : Int) ≤ ((l.length - 1 - i : Nat) : Int) := by omega
    have hj1 : ((l.length - 1 - i : Nat) : Int) < (l.length : Int) := by omega
    have hgi : ((revAt l i).map bD).getD i .any = bD l[i] := by rw [getD_map_lt bD (revAt l i) i (by rw [revAt_len]; omega), revAt_get l i i (by omega) (by omega)]
    have hgj : ((revAt l i).map bD).getD (l.length - 1 - i) .any = bD l[l.length - 1 - i] := by rw [getD_map_lt bD (revAt l i) (l.length - 1 - i) (by rw [revAt_len]; omega), revAt_get l i (l.length - 1 - i) (by omega) (by omega)]
    have hbl : ((revAt l i).map bD).length = l.length := by rw [List.length_map, revAt_len]
    have hgj2 : (((revAt l i).map bD).set i (.v (.int .u8 (l[l.length - 1 - i].toNat : Int)))).getD (l.length - 1 - i) .any = bD l[l.length - 1 - i] := by
      rw [← hgj, List.getD_eq_getElem?_getD, List.getElem?_set_ne (by omega), ← List.getD_eq_getElem?_getD]
    have hrow : (((revAt l i).map bD).set i (.v (.int .u8 (l[l.length - 1 - i].toNat : Int)))).set (l.length - 1 - i) (.v (.int .u8 (l[i].toNat : Int))) = (revAt l (i + 1)).map bD := by
      rw [← revAt_set l i hlt2, List.map_set, List.map_set]
      rfl
    have hsl : (((revAt l i).map bD).set i (.v (.int .u8 (l[l.length - 1 - i].toNat : Int)))).length = l.length := by rw [List.length_set, hbl]
    rw [bD] at hgi hgj hgj2
    refine Goes.skip ?_
    refine Goes.seq ?_
    refine Goes.block ?_
    refine Goes.draw [0, 2, 3] [] [b] [15, 13] [(0, true), (1, true), (2, true), (3, true), (4, true), (5, true), (6, true), (7, true), (8, true), (9, true), (10, true), (11, true), (12, true), (13, false), (14, true), (15, false)] (by kernel_rfl) (by decide) (by kernel_rfl) fun K hK => ?_; simp (maxSteps := 4000000) only [go_sem, ↓reduceIte, reduceCtorEq, zqa, zqb, zqc, zqd, zqe, zqf, zqg, zqh, zqi, zqj, zqk, zql, zqm, hjn, hi0, hi1, hj0, hj1, hgi, hgj, hbl, hsl, hgj2, hrow]
    refine ⟨by omega, by omega, by omega, by omega, ?_⟩
    refine hK _ _ ?_; clear hK K
    refine Goes.inBlock ?_
    refine Goes.region [0, 2, 3] fun K hK => ?_; simp (maxSteps := 4000000) only [go_sem, ↓reduceIte, reduceCtorEq, zqa, zqb, zqc, zqd, zqe, zqf, zqg, zqh, zqi, zqj, zqk, zql, zqm]
    refine hK _ _ ?_; clear hK K
    refine Goes.rebase [0, 2, 3] ?_
    simp only [go_sem, ↓reduceIte, reduceCtorEq, zqa, zqb, zqc, zqd, zqe, zqf, zqg, zqh, zqi, zqj, zqk, zql, zqm]
    rw [wrap_succ i (by omega)]
    have hwj : IntKind.i64.wrap (((l.length - 1 - i : Nat) : Int) - 1) = (l.length : Int) - 1 - ((i + 1 : Nat) : Int) := by rw [IntKind.wrap_i64]; omega
    rw [hwj]
    exact ih (i + 1) _ _ ⟨by omega, rfl, rfl⟩ (by omega)
  · have hle : ¬ (i : Int) < (l.length : Int) - 1 - i := by simpa using h9
    refine Goes.exit rfl ?_
    refine Goes.done hC Tryz.func132 (by simp [go_sem]) ?_
    simp only [go_sem, ↓reduceIte, reduceCtorEq, zqa, zqb, zqc, zqd, zqe, zqf, zqg, zqh, zqi, zqj, zqk, zql, zqm]
    rw [revAt_all l i (by omega) hi]
theorem reverse_none (σ : Store) : ACalls Tryz.prog 132 [.own none 1 0] σ (fun e σ' => e = .ret (.tup []) ∧ σ' = σ) := by
  have hw0 : IntKind.i64.wrap (0 - 1) = -1 := by rw [IntKind.wrap_i64]; omega
  refine ACalls.of_body Tryz.func132 rfl Tryz.ntmps132 (by simp) fun C hC => ?_
  refine Goes.seq ?_
  refine Goes.region [0] fun K hK => ?_; simp (maxSteps := 4000000) only [go_sem, ↓reduceIte, reduceCtorEq, zqa, zqb, zqc, zqd, zqe, zqf, zqg, zqh, zqi, zqj, zqk, zql, zqm, hw0]
  refine hK _ _ ?_; clear hK K
  refine Goes.block ?_
  refine Goes.rebase [0, 2, 3] ?_
  simp only [go_sem, ↓reduceIte, reduceCtorEq, zqa, zqb, zqc, zqd, zqe, zqf, zqg, zqh, zqi, zqj, zqk, zql, zqm]
  refine Goes.while (fun (i : Nat) env' σ'' => (True) ∧ env' = [(0, .own none 1 0), (2, .v (.int .i64 0)), (3, .v (.int .i64 (-1)))] ∧ σ = σ'') (fun (i : Nat) => 0) 0 ⟨trivial, rfl, rfl⟩ ?_
  rintro i env' σ'' ⟨-, rfl, rfl⟩ ih
  have ih1 := ih
  refine Goes.seq ?_
  refine Goes.seq ?_
  refine Goes.region [0, 2, 3] fun K hK => ?_; simp (maxSteps := 4000000) only [go_sem, ↓reduceIte, reduceCtorEq, zqa, zqb, zqc, zqd, zqe, zqf, zqg, zqh, zqi, zqj, zqk, zql, zqm]
  refine hK _ _ ?_; clear hK K
  refine Goes.condF rfl ?_
  refine Goes.exit rfl ?_
  refine Goes.done hC Tryz.func132 (by simp [go_sem]) ?_
  simp only [go_sem, ↓reduceIte, reduceCtorEq, zqa, zqb, zqc, zqd, zqe, zqf, zqg, zqh, zqi, zqj, zqk, zql, zqm]
theorem reverse_ownG (o : Option Nat) (l : List UInt8) (ρ : Store) (hg : GrD o 1 (l.map bD) ρ) (hl : l.length < 2 ^ 40) :
    ACalls Tryz.prog 132 [.own o 1 (l.map bD).length] (cellsOf o 1 (l.map bD) ++ ρ) (fun e σ' => e = .ret (.tup []) ∧ σ' = cellsOf o 1 (l.reverse.map bD) ++ ρ) := by
  cases o with
  | none =>
    have : l = [] := by have := hg.zero rfl; simpa using this
    subst this
    exact reverse_none ρ
  | some b =>
    rw [List.length_map]
    exact reverse_own b l ρ hl
theorem rev_calls (args decl : List ByteArray) (files : List XFile) (found : D) (many : Int) (bc : Nat) (σ : Store) (hc : sget bc σ = some (ckR args decl files found many)) (hl : files.length < 2 ^ 31) (hb : ∀ f ∈ files, f.b.length < 2 ^ 40) (hd : decl.length < 2 ^ 40) (ha : args.length < 2 ^ 40) :
    ACalls Tryz.prog 107 [.ptr bc 5 0 0] σ (AR ((oneB decl files args).map List.reverse) (ownRet σ) σ) := by
  have hone := one_calls args decl files found many bc σ hc hl hb hd ha
  refine ACalls.of_body Tryz.func107 rfl Tryz.ntmps107 (by simp) fun C hC => ?_
  refine Goes.seq ?_
  refine Goes.region [0] fun K hK => ?_; simp (maxSteps := 4000000) only [go_sem, ↓reduceIte, reduceCtorEq, zqa, zqb, zqc, zqd, zqe, zqf, zqg, zqh, zqi, zqj, zqk, zql, zqm]
  refine hK _ _ ?_; clear hK K
  refine Goes.seq ?_
  rcases hAF : oneB decl files args with _ | bs
  all_goals rw [hAF] at hone hC
  · refine Goes.region [0] fun K hK => ?_; simp (maxSteps := 4000000) only [go_sem, ↓reduceIte, reduceCtorEq, zqa, zqb, zqc, zqd, zqe, zqf, zqg, zqh, zqi, zqj, zqk, zql, zqm]
    refine ⟨_, Tryz.call131, hone.mono ?_⟩
    rintro e σ1 ⟨rfl, hsl⟩
    simp only [go_sem, ↓reduceIte, reduceCtorEq, zqa, zqb, zqc, zqd, zqe, zqf, zqg, zqh, zqi, zqj, zqk, zql, zqm]
    exact Pan.of hC Tryz.func107 ⟨rfl, hsl⟩
  · refine Goes.region [0] fun K hK => ?_; simp (maxSteps := 4000000) only [go_sem, ↓reduceIte, reduceCtorEq, zqa, zqb, zqc, zqd, zqe, zqf, zqg, zqh, zqi, zqj, zqk, zql, zqm]
    refine ⟨_, Tryz.call131, hone.mono ?_⟩
    rintro e σ1 ⟨o2, hgr2, rfl, rfl⟩
    simp only [go_sem, ↓reduceIte, reduceCtorEq, zqa, zqb, zqc, zqd, zqe, zqf, zqg, zqh, zqi, zqj, zqk, zql, zqm]
    refine hK _ _ ?_; clear hK K
    refine Goes.seq ?_
    have hbl : bs.length < 2 ^ 40 := by
      unfold oneB at hAF
      split at hAF
      · exact argF_len hb hAF
      · cases hAF
    refine Goes.region [3] fun K hK => ?_; simp (maxSteps := 4000000) only [go_sem, ↓reduceIte, reduceCtorEq, zqa, zqb, zqc, zqd, zqe, zqf, zqg, zqh, zqi, zqj, zqk, zql, zqm]
    refine ⟨_, Tryz.call132, (reverse_ownG o2 bs σ hgr2 hbl).mono ?_⟩
    rintro e σ1 ⟨rfl, rfl⟩
    simp only [go_sem, ↓reduceIte, reduceCtorEq, zqa, zqb, zqc, zqd, zqe, zqf, zqg, zqh, zqi, zqj, zqk, zql, zqm]
    refine hK _ _ ?_; clear hK K
    refine Goes.seq ?_
    refine Goes.region [3] fun K hK => ?_; simp (maxSteps := 4000000) only [go_sem, ↓reduceIte, reduceCtorEq, zqa, zqb, zqc, zqd, zqe, zqf, zqg, zqh, zqi, zqj, zqk, zql, zqm]
    refine hK _ _ ?_; clear hK K
    refine Goes.ret hC Tryz.func107 (by simp [go_sem]) ?_
    simp only [go_sem, ↓reduceIte, reduceCtorEq, zqa, zqb, zqc, zqd, zqe, zqf, zqg, zqh, zqi, zqj, zqk, zql, zqm]
    refine ⟨o2, GrD.re hgr2 fun h => ?_, ?_, rfl⟩
    · have : bs = [] := by simpa using h
      rw [this]; rfl
    · simp
end Go.Ab.S16
set_option linter.unusedSimpArgs false
set_option linter.unusedVariables false
set_option linter.constructorNameAsVariable false
namespace Go.Ab.S16
open Go Go.Proofs
/-- One byte more. -/
def hashS (h : Nat) (c : UInt8) : Nat := (h ^^^ c.toNat) * 1099511628211 % 18446744073709551616
def hashN (l : List UInt8) : Nat := l.foldl hashS 14695981039346656037
theorem xor_u64 (P : Program) (T : TypeId) (xo yo : Operand) (a b : Nat) (ha : a < 18446744073709551616) (hb : b < 18446744073709551616) : aBin P .xor T xo yo (.v (.int .u64 (a : Int))) (.v (.int .u64 (b : Int))) = .val True (.v (.int .u64 ((a ^^^ b : Nat) : Int))) := by
  have hx : a ^^^ b < 2 ^ 64 := Nat.xor_lt_two_pow (by omega) (by omega)
  have h : IntKind.u64.wrap ((a % 2 ^ IntKind.u64.bits ^^^ b % 2 ^ IntKind.u64.bits : Nat) : Int) = ((a ^^^ b : Nat) : Int) := by
    rw [show IntKind.u64.bits = 64 from rfl, Nat.mod_eq_of_lt (by omega), Nat.mod_eq_of_lt (by omega), IntKind.wrap_u64]
    omega
  simp [aBin, ifcNil, aBin0, toV, scal, eqGuard, binOp, Op.intBits, okV, ofV, purely_pure]
  exact h
theorem hash1_calls (h : Nat) (hh : h < 18446744073709551616) (c : UInt8) (σ : Store) : ACalls Tryz.prog 158 [.v (.int .u64 (h : Int)), bD c] σ (fun e σ' => e = .ret (.v (.int .u64 (hashS h c : Int))) ∧ σ' = σ) := by
  have hc : c.toNat < 256 := c.toNat_lt
  have hw : IntKind.u64.wrap (c.toNat : Int) = (c.toNat : Int) := by rw [IntKind.wrap_u64]; omega
  have hx := fun xo yo => xor_u64 Tryz.prog 170 xo yo h c.toNat hh (by omega)
  have hm : IntKind.u64.wrap (((h ^^^ c.toNat : Nat) : Int) * 1099511628211) = (hashS h c : Int) := by
    rw [IntKind.wrap_u64]
    unfold hashS
    omega
  refine ACalls.of_body Tryz.func158 rfl Tryz.ntmps158 (by simp) fun C hC => ?_
  refine Goes.seq ?_
  refine Goes.region [0, 1] fun K hK => ?_; simp (maxSteps := 4000000) only [go_sem, ↓reduceIte, reduceCtorEq, zqa, zqb, zqc, zqd, zqe, zqf, zqg, zqh, zqi, zqj, zqk, zql, zqm]
  refine hK _ _ ?_; clear hK K
  refine Goes.seq ?_
  refine Goes.region [0, 1] fun K hK => ?_; simp (maxSteps := 4000000) only [go_sem, ↓reduceIte, reduceCtorEq, zqa, zqb, zqc, zqd, zqe, zqf, zqg, zqh, zqi, zqj, zqk, zql, zqm, bD, hw, hx, hm]
  refine hK _ _ ?_; clear hK K
  refine Goes.ret hC Tryz.func158 (by simp [go_sem]) ?_
  simp only [go_sem, ↓reduceIte, reduceCtorEq, zqa, zqb, zqc, zqd, zqe, zqf, zqg, zqh, zqi, zqj, zqk, zql, zqm]
theorem hashS_lt (h : Nat) (c : UInt8) : hashS h c < 18446744073709551616 := Nat.mod_lt _ (by omega)
theorem hashT_succ (l : List UInt8) (i : Nat) (h : i < l.length) : hashN (l.take (i + 1)) = hashS (hashN (l.take i)) l[i] := by
  unfold hashN
  rw [List.take_succ_eq_append_getElem h, List.foldl_append, List.foldl_cons, List.foldl_nil]
theorem hashN_lt (l : List UInt8) : hashN l < 18446744073709551616 := by
  have key : ∀ (l : List UInt8) (h : Nat), h < 18446744073709551616 → l.foldl hashS h < 18446744073709551616 := by
    intro l
    induction l with
    | nil => intro h hh; exact hh
    | cons c l ih => intro h _; exact ih _ (hashS_lt h c)
  exact key l _ (by omega)
theorem fold_calls (o : Option Nat) (l : List UInt8) (σ : Store) (hg : oget 1 o σ = some (l.map bD)) (hl : l.length < 2 ^ 40) :
    ACalls Tryz.prog 159 [.v (.int .u64 14695981039346656037), .own o 1 l.length, .clo (.func 158) [] []] σ (fun e σ' => e = .ret (.v (.int .u64 (hashN l : Int))) ∧ σ' = σ) := by
  have hll : (l.map bD).length = l.length := List.length_map ..
  cases o with
  | none =>
    have : l = [] := by
      simp only [oget, Option.some.injEq] at hg
      simpa using hg.symm
    subst this
    refine ACalls.of_body Tryz.func159 rfl Tryz.ntmps159 (by simp) fun C hC => ?_
    refine Goes.seq ?_
    refine Goes.region [0, 1, 2] fun K hK => ?_; simp (maxSteps := 4000000) only [go_sem, ↓reduceIte, reduceCtorEq, zqa, zqb, zqc, zqd, zqe, zqf, zqg, zqh, zqi, zqj, zqk, zql, zqm]
    refine hK _ _ ?_; clear hK K
    refine Goes.seq ?_
    refine Goes.seq ?_
    refine Goes.region [0, 1, 2] fun K hK => ?_; simp (maxSteps := 4000000) only [go_sem, ↓reduceIte, reduceCtorEq, zqa, zqb, zqc, zqd, zqe, zqf, zqg, zqh, zqi, zqj, zqk, zql, zqm]
    refine hK _ _ ?_; clear hK K
    refine Goes.block ?_
    refine Goes.rebase [0, 2, 9, 10, 11] ?_
    simp only [go_sem, ↓reduceIte, reduceCtorEq, zqa, zqb, zqc, zqd, zqe, zqf, zqg, zqh, zqi, zqj, zqk, zql, zqm]
    refine Goes.while (fun (i : Nat) env' σ'' => (True) ∧ env' = [(0, .v (.int .u64 14695981039346656037)), (2, .clo (.func 158) [] []), (9, .own none 1 0), (10, .v (.int .i64 0)), (11, .v (.int .i64 0))] ∧ σ = σ'') (fun (i : Nat) => 0) 0 ⟨trivial, rfl, rfl⟩ ?_
    rintro i env' σ'' ⟨-, rfl, rfl⟩ ih
    have ih1 := ih
    refine Goes.seq ?_
    refine Goes.region [0, 2, 9, 10, 11] fun K hK => ?_; simp (maxSteps := 4000000) only [go_sem, ↓reduceIte, reduceCtorEq, zqa, zqb, zqc, zqd, zqe, zqf, zqg, zqh, zqi, zqj, zqk, zql, zqm]
    refine hK _ _ ?_; clear hK K
    refine Goes.seq ?_
    refine Goes.condF rfl ?_
    refine Goes.exit rfl ?_
    refine Goes.seq ?_
    refine Goes.region [0] fun K hK => ?_; simp (maxSteps := 4000000) only [go_sem, ↓reduceIte, reduceCtorEq, zqa, zqb, zqc, zqd, zqe, zqf, zqg, zqh, zqi, zqj, zqk, zql, zqm]
    refine hK _ _ ?_; clear hK K
    refine Goes.ret hC Tryz.func159 (by simp [go_sem]) ?_
    simp only [go_sem, ↓reduceIte, reduceCtorEq, zqa, zqb, zqc, zqd, zqe, zqf, zqg, zqh, zqi, zqj, zqk, zql, zqm]
    rfl
  | some b =>
    have hb : sget b σ = some (.arr 1 (l.map bD)) := by
      simp only [oget] at hg
      split at hg
      · rename_i s xs hs
        split at hg
        · rename_i h1
          cases hg; subst h1; exact hs
        · cases hg
      · cases hg
    refine ACalls.of_body Tryz.func159 rfl Tryz.ntmps159 (by simp) fun C hC => ?_
    refine Goes.seq ?_
    refine Goes.region [0, 1, 2] fun K hK => ?_; simp (maxSteps := 4000000) only [go_sem, ↓reduceIte, reduceCtorEq, zqa, zqb, zqc, zqd, zqe, zqf, zqg, zqh, zqi, zqj, zqk, zql, zqm]
    refine hK _ _ ?_; clear hK K
    refine Goes.seq ?_
    refine Goes.seq ?_
    refine Goes.region [0, 1, 2] fun K hK => ?_; simp (maxSteps := 4000000) only [go_sem, ↓reduceIte, reduceCtorEq, zqa, zqb, zqc, zqd, zqe, zqf, zqg, zqh, zqi, zqj, zqk, zql, zqm]
    refine hK _ _ ?_; clear hK K
    refine Goes.block ?_
    refine Goes.rebase [0, 2, 9, 10, 11] ?_
    simp only [go_sem, ↓reduceIte, reduceCtorEq, zqa, zqb, zqc, zqd, zqe, zqf, zqg, zqh, zqi, zqj, zqk, zql, zqm]
    refine Goes.while (fun (i : Nat) env' σ'' => (i ≤ l.length) ∧ env' = [(0, .v (.int .u64 (hashN (l.take i) : Int))), (2, .clo (.func 158) [] []), (9, .own (some b) 1 l.length), (10, .v (.int .i64 (l.length : Int))), (11, .v (.int .i64 (i : Int)))] ∧ σ = σ'') (fun (i : Nat) => l.length - i) 0 ⟨by omega, rfl, rfl⟩ ?_
    rintro i env' σ'' ⟨hi, rfl, rfl⟩ ih
    have ih1 := ih
    refine Goes.seq ?_
    refine Goes.region [0, 2, 9, 10, 11] fun K hK => ?_; simp (maxSteps := 4000000) only [go_sem, ↓reduceIte, reduceCtorEq, zqa, zqb, zqc, zqd, zqe, zqf, zqg, zqh, zqi, zqj, zqk, zql, zqm]
    refine hK _ _ ?_; clear hK K
    refine Goes.seq ?_
    refine Goes.cond rfl (fun h12 => ?_) (fun h12 => ?_)
    · have hlt : i < l.length := by simpa using h12
      have hgx := getD_map_lt bD l i hlt
      have hi0 : (0 : Int) ≤ (i : Int) := by omega
      have hi1 : (i : Int) < (l.length : Int) := by omega
      have hsu := hashT_succ l i hlt
      have hbc : ∀ c, (bD c).cells = [bD c] := fun _ => rfl
      have hbp : ∀ c, (bD c).plain = true := fun _ => rfl
      refine Goes.skip ?_
      refine Goes.seq ?_
      refine Goes.block ?_
      refine Goes.seq ?_
      refine Goes.region [0, 2, 9, 10, 11] fun K hK => ?_; simp (maxSteps := 4000000) only [go_sem, ↓reduceIte, reduceCtorEq, zqa, zqb, zqc, zqd, zqe, zqf, zqg, zqh, zqi, zqj, zqk, zql, zqm, hgx, hi0, hi1, hb, hll, hlt, hbc, hbp]
      refine hK _ _ ?_; clear hK K
      refine Goes.region [0, 2, 8, 9, 10, 11] fun K hK => ?_; simp (maxSteps := 4000000) only [go_sem, ↓reduceIte, reduceCtorEq, zqa, zqb, zqc, zqd, zqe, zqf, zqg, zqh, zqi, zqj, zqk, zql, zqm]
      refine ⟨_, Tryz.call158, (hash1_calls (hashN (l.take i)) (hashN_lt _) l[i] _).mono ?_⟩
      rintro e σ1 ⟨rfl, rfl⟩
      simp only [go_sem, ↓reduceIte, reduceCtorEq, zqa, zqb, zqc, zqd, zqe, zqf, zqg, zqh, zqi, zqj, zqk, zql, zqm]
      refine hK _ _ ?_; clear hK K
      refine Goes.inBlock ?_
      refine Goes.region [0, 2, 9, 10, 11] fun K hK => ?_; simp (maxSteps := 4000000) only [go_sem, ↓reduceIte, reduceCtorEq, zqa, zqb, zqc, zqd, zqe, zqf, zqg, zqh, zqi, zqj, zqk, zql, zqm]
      refine hK _ _ ?_; clear hK K
      refine Goes.rebase [0, 2, 9, 10, 11] ?_
      simp only [go_sem, ↓reduceIte, reduceCtorEq, zqa, zqb, zqc, zqd, zqe, zqf, zqg, zqh, zqi, zqj, zqk, zql, zqm]
      rw [wrap_succ i (by omega), ← hsu]
      exact ih (i + 1) _ _ ⟨by omega, rfl, rfl⟩ (by omega)
    · have hie : i = l.length := by simp at h12; omega
      subst hie
      refine Goes.exit rfl ?_
      refine Goes.seq ?_
      refine Goes.region [0] fun K hK => ?_; simp (maxSteps := 4000000) only [go_sem, ↓reduceIte, reduceCtorEq, zqa, zqb, zqc, zqd, zqe, zqf, zqg, zqh, zqi, zqj, zqk, zql, zqm]
      refine hK _ _ ?_; clear hK K
      refine Goes.ret hC Tryz.func159 (by simp [go_sem]) ?_
      simp only [go_sem, ↓reduceIte, reduceCtorEq, zqa, zqb, zqc, zqd, zqe, zqf, zqg, zqh, zqi, zqj, zqk, zql, zqm]
      rw [List.take_length]
theorem hash_calls (o : Option Nat) (l : List UInt8) (σ : Store) (hg : oget 1 o σ = some (l.map bD)) (hl : l.length < 2 ^ 40) :
    ACalls Tryz.prog 135 [.own o 1 l.length] σ (fun e σ' => e = .ret (.v (.int .u64 (hashN l : Int))) ∧ σ' = σ) := by
  refine ACalls.of_body Tryz.func135 rfl Tryz.ntmps135 (by simp) fun C hC => ?_
  refine Goes.seq ?_
  refine Goes.region [0] fun K hK => ?_; simp (maxSteps := 4000000) only [go_sem, ↓reduceIte, reduceCtorEq, zqa, zqb, zqc, zqd, zqe, zqf, zqg, zqh, zqi, zqj, zqk, zql, zqm]
  refine hK _ _ ?_; clear hK K
  refine Goes.seq ?_
  refine Goes.region [0] fun K hK => ?_; simp (maxSteps := 4000000) only [go_sem, ↓reduceIte, reduceCtorEq, zqa, zqb, zqc, zqd, zqe, zqf, zqg, zqh, zqi, zqj, zqk, zql, zqm]
  refine hK _ _ ?_; clear hK K
  refine Goes.seq ?_
  refine Goes.region [0, 3] fun K hK => ?_; simp (maxSteps := 4000000) only [go_sem, ↓reduceIte, reduceCtorEq, zqa, zqb, zqc, zqd, zqe, zqf, zqg, zqh, zqi, zqj, zqk, zql, zqm]
  refine ⟨_, Tryz.call159, (fold_calls o l _ hg hl).mono ?_⟩
  rintro e σ1 ⟨rfl, rfl⟩
  simp only [go_sem, ↓reduceIte, reduceCtorEq, zqa, zqb, zqc, zqd, zqe, zqf, zqg, zqh, zqi, zqj, zqk, zql, zqm]
  refine hK _ _ ?_; clear hK K
  refine Goes.ret hC Tryz.func135 (by simp [go_sem]) ?_
  simp only [go_sem, ↓reduceIte, reduceCtorEq, zqa, zqb, zqc, zqd, zqe, zqf, zqg, zqh, zqi, zqj, zqk, zql, zqm]
end Go.Ab.S16
set_option linter.unusedSimpArgs false
set_option linter.unusedVariables false
set_option linter.constructorNameAsVariable false
namespace Go.Ab
open Go
variable {P : Program} {N : Slots} {C : Ctx P N} {todo : List Item} {env : Env} {ρ : Store}
theorem flat_cell1 {cs : List D} (h : ∀ c ∈ cs, c.cells = [c]) : flat cs = cs := by
  induction cs with
  | nil => rfl
  | cons c cs ih => rw [flat_cons, h c (by simp), ih fun d hd => h d (by simp [hd])]; rfl
theorem Goes.retype (k : Nat) {b n : Nat} {cs : List D} (hk : eget k env = .ptr b n 0 0) (hc : ∀ c ∈ cs, c.cells = [c]) (h : Goes C todo (eput k (.ptr b 1 0 0) env) ((b, .arr 1 cs) :: ρ)) : Goes C todo env ((b, .arr n [.agg cs]) :: ρ) := by
  have h2 : Goes C todo env ((b, .arr 1 cs) :: ρ) := by
    refine Goes.env_le h fun j => ?_
    rw [eget_eput]
    split
    · rename_i hj
      rw [hj, hk]
      intro w S v hv
      cases hv with
      | ptr =>
        have := @Rep.ptr w S b 1 0 0
        simpa using this
    · exact DLe.refl _
  intro a w S hd hsim
  refine h2 a w S hd ⟨hsim.env, fun c o hcc => ?_, { hsim.fr with dom := fun c hcc => hsim.fr.dom c ?_ }, hsim.size⟩
  · rw [sget_cons] at hcc
    by_cases hcb : c = b
    · rw [if_pos hcb] at hcc
      cases hcc
      obtain ⟨h1, c', e, lo, hi, vals, h2, h3, h4, h5, h6⟩ := hsim.store c (.arr n [.agg cs]) (by rw [sget_cons, if_pos hcb])
      have e1 : flat [D.agg cs] = cs := by simp [flat, D.cells]
      rw [e1] at h3
      exact ⟨h1, c', e, lo, hi, vals, h2, by rw [flat_cell1 hc]; exact h3, h4, fun x hx => by rw [hc x hx]; rfl, h6⟩
    · rw [if_neg hcb] at hcc
      exact hsim.store c o (by rw [sget_cons, if_neg hcb]; exact hcc)
  · unfold sdom at *
    rw [sget_cons] at hcc ⊢
    split at hcc <;> simp_all
end Go.Ab
