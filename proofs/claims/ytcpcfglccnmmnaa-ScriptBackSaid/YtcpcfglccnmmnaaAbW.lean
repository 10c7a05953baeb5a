/- The frame rule of contracts. -/
import Derived.Test.YtcpcfglccnmmnaaAbV
set_option linter.unusedSimpArgs false
set_option linter.unusedVariables false
set_option linter.constructorNameAsVariable false
namespace Go.Ab
open Go

theorem sget_append (b : Nat) (σ ρ : Store) : sget b (σ ++ ρ) = match sget b σ with | some o => some o | none => sget b ρ := by
  induction σ with
  | nil => rfl
  | cons p r ih =>
    obtain ⟨c, o⟩ := p
    rw [List.cons_append, sget_cons, sget_cons]
    split
    · rfl
    · exact ih

theorem sget_append_none {b : Nat} {σ ρ : Store} (h : sget b σ = none) : sget b (σ ++ ρ) = sget b ρ := by rw [sget_append, h]
theorem sget_append_some {b : Nat} {σ ρ : Store} {o : AObj} (h : sget b σ = some o) : sget b (σ ++ ρ) = some o := by rw [sget_append, h]

/-- Apart: what the one store holds the other does not. -/
def Apart (ρ σ : Store) : Prop := ∀ b, sget b ρ ≠ none → sget b σ = none

theorem Apart.nil (σ : Store) : Apart [] σ := fun b h => absurd rfl h
theorem Apart.nil_right (ρ : Store) : Apart ρ [] := fun _ _ => rfl
theorem Apart.cons {ρ σ : Store} {b : Nat} {o : AObj} (h : sget b σ = none) (k : Apart ρ σ) : Apart ((b, o) :: ρ) σ := fun c hc => by
  rw [sget_cons] at hc
  split at hc
  · rename_i hcb; rw [hcb]; exact h
  · exact k c hc
theorem Apart.append {ρ ρ' σ : Store} (h : Apart ρ σ) (k : Apart ρ' σ) : Apart (ρ ++ ρ') σ := fun c hc => by
  rw [sget_append] at hc
  split at hc
  · rename_i o ho; exact h c (by rw [ho]; simp)
  · exact k c hc
theorem Apart.symm {ρ σ : Store} (h : Apart ρ σ) : Apart σ ρ := fun b hb => by
  cases hr : sget b ρ with
  | none => rfl
  | some o => exact absurd (h b (by rw [hr]; simp)) hb

theorem SLe.nil (σ : Store) : SLe [] σ := fun b o h => by simp at h
theorem SLe.cons {σ σ' : Store} {b : Nat} {o : AObj} (h : sget b σ' = some o) (k : SLe σ σ') : SLe ((b, o) :: σ) σ' := fun c x hc => by
  rw [sget_cons] at hc
  split at hc
  · rename_i hcb; cases hc; rw [hcb]; exact h
  · exact k c x hc
theorem SLe.append_left (σ ρ : Store) : SLe σ (σ ++ ρ) := fun b o h => sget_append_some h
theorem SLe.append_right {σ ρ : Store} (h : Apart ρ σ) : SLe ρ (σ ++ ρ) := fun b o hb => by
  rw [sget_append_none (h b (by rw [hb]; simp))]; exact hb
theorem SLe.append {σ ρ τ : Store} (h : SLe σ τ) (k : SLe ρ τ) : SLe (σ ++ ρ) τ := fun b o hb => by
  rw [sget_append] at hb
  split at hb
  · rename_i o' ho; cases hb; exact h b _ ho
  · exact k b o hb

section
variable {P : Program} {N : Slots} {C : Ctx P N} {f : FuncId} {args : List D} {σ σ1 ρ : Store} {R R' : AEnd → Store → Prop}

theorem ACalls.frame (h : ACalls P f args σ1 R) (h1 : SLe σ1 σ) (h2 : SLe ρ σ) (h3 : Apart ρ σ1) :
    ACalls P f args σ (fun e σ' => ∃ σ1', R e σ1' ∧ Apart ρ σ1' ∧ σ' = σ1' ++ ρ) := by
  intro w S vs hS hst hv
  refine (h w S vs hS (hst.le h1) hv).mono ?_
  rintro e w' ⟨ae, σ1', S', hR, hend, hst', hfr⟩
  have hap : Apart ρ σ1' := fun b hb => by
    cases hs : sget b σ1' with
    | none => rfl
    | some o =>
      obtain ⟨x, hx⟩ := Option.ne_none_iff_exists'.1 hb
      rcases hfr.dom b (by unfold sdom; rw [hs]; simp) with hd | hd
      · exact absurd (h3 b hb) hd
      · have := (hst b x (h2 b x hx)).2.lt; omega
  have hE : Ev w S w' S' := hfr.ev fun b hb => ⟨hS b hb, fun hd => by
    unfold sdom at hd
    cases hs : sget b σ1 with
    | none => exact hd hs
    | some o => exact (hst b o (h1 b o hs)).1 hb⟩
  refine ⟨ae, σ1' ++ ρ, S', ⟨σ1', hR, hap, rfl⟩, hend, fun b o hb => ?_, { hfr with block := fun b hb hd => ?_, new := fun b hb => ?_, dom := fun b hb => ?_ }⟩
  · rw [sget_append] at hb
    split at hb
    · rename_i x hx; cases hb; exact hst' b _ hx
    · have hr := hst b o (h2 b o hb)
      have hn : ¬ sdom σ1 b := fun hd => hd (h3 b (by rw [hb]; simp))
      have hlt := hr.2.lt
      refine ⟨fun hs => ?_, hr.2.ev hE (hfr.block b hlt hn)⟩
      rcases hfr.new b hs with h4 | h4 | h4
      · exact hr.1 h4
      · exact hn h4
      · omega
  · exact hfr.block b hb fun hd1 => hd (by
      unfold sdom at *
      cases hs : sget b σ1 with
      | none => exact absurd hs hd1
      | some o => rw [h1 b o hs]; simp)
  · rcases hfr.new b hb with h4 | h4 | h4
    · exact .inl h4
    · refine .inr (.inl ?_)
      unfold sdom at *
      cases hs : sget b σ1 with
      | none => exact absurd hs h4
      | some o => rw [h1 b o hs]; simp
    · exact .inr (.inr h4)
  · unfold sdom at hb
    rw [sget_append] at hb
    split at hb
    · rename_i x hx
      rcases hfr.dom b (by unfold sdom; rw [hx]; simp) with h4 | h4
      · refine .inl ?_
        unfold sdom at *
        cases hs : sget b σ1 with
        | none => exact absurd hs h4
        | some o => rw [h1 b o hs]; simp
      · exact .inr h4
    · refine .inl ?_
      unfold sdom
      cases hs : sget b ρ with
      | none => exact absurd hs hb
      | some o => rw [h2 b o hs]; simp

/-- A contract that asks for no rows, in any store. -/
theorem ACalls.quiet (h : ACalls P f args [] R) : ACalls P f args σ (fun e σ' => ∃ σ1', R e σ1' ∧ Apart σ σ1' ∧ σ' = σ1' ++ σ) := h.frame (SLe.nil _) (SLe.refl _) (Apart.nil_right _)

/-- A contract in a store with the same rows in another order, or with more. -/
theorem ACalls.store_le (h : ACalls P f args σ1 R) (h1 : SLe σ1 σ) : ACalls P f args σ R := by
  intro w S vs hS hst hv
  refine (h w S vs hS (hst.le h1) hv).mono ?_
  rintro e w' ⟨ae, σ1', S', hR, hend, hst', hfr⟩
  refine ⟨ae, σ1', S', hR, hend, hst', { hfr with block := fun b hb hd => hfr.block b hb fun hd1 => hd ?_, new := fun b hb => ?_, dom := fun b hb => ?_ }⟩
  · unfold sdom at *
    cases hs : sget b σ1 with
    | none => exact absurd hs hd1
    | some o => rw [h1 b o hs]; simp
  · rcases hfr.new b hb with h4 | h4 | h4
    · exact .inl h4
    · refine .inr (.inl ?_)
      unfold sdom at *
      cases hs : sget b σ1 with
      | none => exact absurd hs h4
      | some o => rw [h1 b o hs]; simp
    · exact .inr (.inr h4)
  · rcases hfr.dom b hb with h4 | h4
    · refine .inl ?_
      unfold sdom at *
      cases hs : sget b σ1 with
      | none => exact absurd hs h4
      | some o => rw [h1 b o hs]; simp
    · exact .inr h4

end
end Go.Ab
