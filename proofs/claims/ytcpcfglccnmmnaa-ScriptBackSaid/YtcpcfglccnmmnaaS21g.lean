/- slices.Grow. -/
import Derived.Test.YtcpcfglccnmmnaaS21b
set_option linter.unusedSimpArgs false
set_option linter.unusedVariables false
set_option linter.constructorNameAsVariable false
namespace Go.Ab.S21
open Go Go.Proofs

theorem grow_some (a : Addr) (n cap : Nat) (k : Int) (w : World) (olds : List Value) (R : Ending → World → Prop) (hn : n ≤ cap) (hn2 : n < 2 ^ 40) (hc : cap ≤ 9223372036854775807) (hk0 : 0 ≤ k) (hk : k < 1000)
    (hl : ∀ w', w'.heap = w.heap → (loadCellsFrom a 0 cap #[]).run Try.prog w' = .ok olds.toArray w')
    (h1 : R (.returned (.slice (some a) n cap)) w)
    (h2 : ∀ (nc : Nat) (z : Array Value), n ≤ nc → nc ≤ 9223372036854775807 → cap + z.size = nc → R (.returned (.slice (some ⟨w.heap.size, 0, none⟩) n nc)) (w.drew.alloc (.cells (olds.toArray ++ z) 5))) :
    Calls Try.prog 52 #[.slice (some a) n cap, .int .i64 k] w R := by
  have hb : Try.t5.bytes = 1 := rfl
  have hs : Try.t5.size = 1 := rfl
  go_enter Try.func52, Try.ntmps52
  go_wp2
  · rename_i h _ _ _
    have := growslice_fits (need := cap + (k - (↑cap - ↑n)).toNat) (old := cap) (bytes := 1) (by omega) (by omega)
    omega
  · have g1 := grownCap_ge w (cap + (k - (↑cap - ↑n)).toNat) cap 5
    have g2 := grownCap_le_maxLen w (cap + (k - (↑cap - ↑n)).toNat) cap 5 (by unfold maxLen; omega)
    unfold grownCap at g1 g2
    unfold maxLen at g2
    rw [hl w.drew rfl]
    simp only [Result.andThen_ok, Oper.upon_value]
    generalize (Question.appendCap (cap + (k - (↑cap - ↑n)).toNat) cap 5).cut (w.tape w.drawn (Question.appendCap (cap + (k - (↑cap - ↑n)).toNat) cap 5)) = nc at *
    go_wp2
    refine h2 nc _ (by omega) g2 ?_
    simp [Builtin.zeroCells]; omega
  · exact h1

theorem grow_none (k : Int) (w : World) (R : Ending → World → Prop) (hk0 : 0 ≤ k) (hk : k < 1000)
    (h1 : R (.returned (.slice none 0 0)) w)
    (h2 : ∀ (nc : Nat) (z : Array Value), nc ≤ 9223372036854775807 → z.size = nc → R (.returned (.slice (some ⟨w.heap.size, 0, none⟩) 0 nc)) (w.drew.alloc (.cells z 5))) :
    Calls Try.prog 52 #[.slice none 0 0, .int .i64 k] w R := by
  have hb : Try.t5.bytes = 1 := rfl
  have hs : Try.t5.size = 1 := rfl
  go_enter Try.func52, Try.ntmps52
  go_wp2
  · rename_i h _ _ _
    have := growslice_fits (need := k.toNat) (old := 0) (bytes := 1) (by omega) (by omega)
    omega
  · have g1 := grownCap_ge w k.toNat 0 5
    have g2 := grownCap_le_maxLen w k.toNat 0 5 (by unfold maxLen; omega)
    unfold grownCap at g1 g2
    unfold maxLen at g2
    generalize (Question.appendCap k.toNat 0 5).cut (w.tape w.drawn (Question.appendCap k.toNat 0 5)) = nc at *
    refine h2 nc _ g2 ?_
    simp [Builtin.zeroCells]; omega
  · exact h1

/-- A new row, behind a drawing: the frame of it. -/
theorem fr_drew_alloc {w : World} {S : Nat → Prop} {σ : Store} (hS : ∀ b, S b → b < w.heap.size) (ob : Obj) (x : AObj) : Fr w S (sdom σ) (w.drew.alloc ob) S ((w.heap.size, x) :: σ) where
  os := rfl
  tape := rfl
  output := rfl
  size := by simp
  shape := fun b c e fr h => by
    obtain ⟨c', fr', h', hs⟩ := shape_alloc w.drew ob b c e fr h
    exact ⟨c', fr', h', hs⟩
  block := fun b hb _ => frozen_new w.drew ob b (by show b ≠ w.heap.size; omega)
  mono := fun _ h => h
  new := fun _ h => .inl h
  dom := fun b hb => by
    unfold sdom at *
    rw [sget_cons] at hb
    by_cases hbs : b = w.heap.size
    · exact .inr (by omega)
    · rw [if_neg hbs] at hb; exact .inl hb
  lt := fun b hb => by have := hS b hb; simp; omega

theorem grow_own (ob : Option Nat) (n : Nat) (xs : List D) (k : Int) (σ : Store) (hx : oget 1 ob σ = some xs) (hn : n ≤ xs.length) (hl : n < 2 ^ 40) (hk0 : 0 ≤ k) (hk : k < 1000) (h0 : ob = none → n = 0) :
    ACalls Try.prog 52 [.own ob 1 n, .v (.int .i64 k)] σ (fun e σ' => ∃ ob', e = .ret (.own ob' 1 n) ∧ ((ob' = ob ∧ σ' = σ) ∨ ∃ nb, ob' = some nb ∧ sget nb σ = none ∧ σ' = (nb, .arr 1 (xs.take n)) :: σ)) := by
  intro w S vs hS hst hv
  obtain ⟨v, vs1, rfl, hv1, hv⟩ := hv.cons_inv
  obtain ⟨v2, vs2, rfl, hv2, hv⟩ := hv.cons_inv
  have := hv.nil_inv
  subst this
  have := hv2.v_inv
  subst this
  have fresh : sget w.heap.size σ = none := not_sdom_size hst
  cases ob with
  | some b =>
    obtain ⟨cap, c, e, fr, rfl, hcap, hh, hcs, hcm⟩ := own_cap hv1
    rw [Nat.mul_one] at hcs
    have hsg : sget b σ = some (.arr 1 xs) := by
      simp only [oget] at hx
      split at hx
      · rename_i s ys hg
        split at hx
        · rename_i h1; cases hx; rw [hg, h1]
        · cases hx
      · cases hx
    have hobj := (hst b _ hsg).2
    obtain ⟨c', e', lo, hi, vals, hh', hr, hcv, hs1, hfz⟩ := hobj
    rw [hh] at hh'; cases hh'
    have hcl : (c.toList.take cap).length = cap := by simp; omega
    refine grow_some ⟨b, 0, none⟩ n cap k w (c.toList.take cap) _ hcap hl hcm hk0 hk (fun w' hw => ?_) ?_ ?_
    · have := run_loadCells_list (P := Try.prog) w' ⟨b, 0, none⟩ (c.toList.take cap) (fun j v hj => by
        rw [List.getElem?_take] at hj
        split at hj
        · rw [add_block, Nat.zero_add, cell_heap hw, cells_of_row hh]; simpa using hj
        · cases hj)
      rw [hcl] at this
      exact this
    · exact ⟨_, σ, S, ⟨some b, rfl, .inl ⟨rfl, rfl⟩⟩, hv1, hst, Fr.refl σ hS⟩
    · intro nc z h1 h2 h3
      have hE : Ev w S (w.drew.alloc (.cells ((c.toList.take cap).toArray ++ z) 5)) S := (ev_drew w S).trans (ev_alloc (w := w.drew) hS _)
      refine ⟨_, (w.heap.size, .arr 1 (xs.take n)) :: σ, S, ⟨some w.heap.size, rfl, .inr ⟨_, rfl, fresh, rfl⟩⟩, ?_, ?_, fr_drew_alloc hS _ _⟩
      · exact Rep.own (heap_alloc w.drew _) h1 (by simp; omega) h2
      · refine store_alloc (w := w.drew) (store_drew hst) hS _ _ ⟨_, 5, 0, 0, vals.take n, heap_alloc w.drew _, ?_, ?_, fun y hy => hs1 y (List.mem_of_mem_take hy), .inl (Nat.le_refl _)⟩
        · have := flat_take xs n hs1
          rw [Nat.mul_one] at this
          rw [this]
          exact (hr.take n).ev hE
        · intro j v hj
          rw [List.getElem?_take] at hj
          split at hj
          · rw [Array.getElem?_append_left (by simp; omega)]
            have := hcv j v hj
            simp [List.getElem?_take]
            refine ⟨by omega, ?_⟩
            simpa using this
          · cases hj
  | none =>
    obtain ⟨ad, rfl, rfl⟩ := own0_inv hv1
    simp only [oget, Option.some.injEq] at hx
    subst hx
    have new : ∀ (nc : Nat) (z : Array Value), nc ≤ 9223372036854775807 → z.size = nc → ∃ ae σ' S', (fun e σ' => ∃ ob', e = .ret (.own ob' 1 0) ∧ ((ob' = none ∧ σ' = σ) ∨ ∃ nb, ob' = some nb ∧ sget nb σ = none ∧ σ' = (nb, .arr 1 (([] : List D).take 0)) :: σ)) ae σ' ∧
        RepEnd (w.drew.alloc (.cells z 5)) S' ae (.returned (.slice (some ⟨w.heap.size, 0, none⟩) 0 nc)) ∧ RepStore (w.drew.alloc (.cells z 5)) S' σ' ∧ Fr w S (sdom σ) (w.drew.alloc (.cells z 5)) S' σ' := by
      intro nc z h2 h3
      refine ⟨_, (w.heap.size, .arr 1 []) :: σ, S, ⟨some w.heap.size, rfl, .inr ⟨_, rfl, fresh, rfl⟩⟩, ?_, ?_, fr_drew_alloc hS _ _⟩
      · exact Rep.own (heap_alloc w.drew _) (Nat.zero_le _) (by omega) h2
      · exact store_alloc (w := w.drew) (store_drew hst) hS _ _ ⟨_, 5, 0, 0, [], heap_alloc w.drew _, .nil, by simp, by simp, .inl (Nat.le_refl _)⟩
    have same : ∃ ae σ' S', (fun e σ' => ∃ ob', e = .ret (.own ob' 1 0) ∧ ((ob' = none ∧ σ' = σ) ∨ ∃ nb, ob' = some nb ∧ sget nb σ = none ∧ σ' = (nb, .arr 1 (([] : List D).take 0)) :: σ)) ae σ' ∧
        RepEnd w S' ae (.returned (.slice ad 0 0)) ∧ RepStore w S' σ' ∧ Fr w S (sdom σ) w S' σ' := ⟨_, σ, S, ⟨none, rfl, .inl ⟨rfl, rfl⟩⟩, .own0, hst, Fr.refl σ hS⟩
    cases ad with
    | none => exact grow_none k w _ hk0 hk same new
    | some a =>
      refine grow_some a 0 0 k w [] _ (Nat.le_refl _) (by decide) (by decide) hk0 hk (fun w' hw => rfl) same fun nc z _ h2 h3 => ?_
      have := new nc z h2 (by omega)
      simpa using this
end Go.Ab.S21
