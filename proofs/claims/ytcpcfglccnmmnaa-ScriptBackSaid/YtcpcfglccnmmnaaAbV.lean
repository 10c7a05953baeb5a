/- Weaker tellings of values, slots and rows. -/
import Derived.Test.YtcpcfglccnmmnaaAbU
set_option linter.unusedSimpArgs false
set_option linter.unusedVariables false
set_option linter.constructorNameAsVariable false
namespace Go.Ab
open Go

/-- d tells more than d'. -/
def DLe (d d' : D) : Prop := ∀ (w : World) (S : Nat → Prop) (v : Value), Rep w S d v → Rep w S d' v

theorem DLe.refl (d : D) : DLe d d := fun _ _ _ h => h
theorem DLe.any (d : D) : DLe d .any := fun _ _ _ _ => .any
theorem DLe.nil_own (sz : Nat) : DLe (.v (.slice none 0 0)) (.own none sz 0) := fun _ _ v h => by rw [h.v_inv]; exact .own0
theorem DLe.nil_slc : DLe (.v (.slice none 0 0)) (.slc []) := fun _ _ v h => by rw [h.v_inv]; exact .slc0
theorem DLe.own_slc (sz n : Nat) : DLe (.own none sz n) (.slc []) := fun _ _ v h => by
  obtain ⟨ad, rfl, _⟩ := own0_inv h; exact .slc0

section
variable {P : Program} {N : Slots} {C : Ctx P N} {todo : List Item} {env env' : Env} {σ σ' : Store}

theorem Goes.env_le (h : Goes C todo env' σ) (he : ∀ k, DLe (eget k env) (eget k env')) : Goes C todo env σ :=
  fun a w S hd hs => h a w S hd ⟨fun k => he k _ _ _ (hs.env k), hs.store, hs.fr, hs.size⟩

theorem Goes.condT {k : List Item} {c : Operand} {x y : Code} (hc : cev env c = .v (.bool true)) (h : Goes C (.code x :: k) env σ) : Goes C (.code (.cond c x y) :: k) env σ := Goes.cond hc (fun _ => h) (fun h => nomatch h)
theorem Goes.condF {k : List Item} {c : Operand} {x y : Code} (hc : cev env c = .v (.bool false)) (h : Goes C (.code y :: k) env σ) : Goes C (.code (.cond c x y) :: k) env σ := Goes.cond hc (fun h => nomatch h) (fun _ => h)

theorem ACalls.ret_le {f : FuncId} {args : List D} {R R' : AEnd → Store → Prop} (h : ACalls P f args σ R) (hr : ∀ e σ', R e σ' → R' e σ' ∨ ∃ d d', e = .ret d ∧ DLe d d' ∧ R' (.ret d') σ') : ACalls P f args σ R' := by
  intro w S vs hS hst hv
  refine (h w S vs hS hst hv).mono ?_
  rintro e w' ⟨ae, σ', S', hR, hend, hst', hfr⟩
  rcases hr ae σ' hR with hR' | ⟨d, d', rfl, hd, hR'⟩
  · exact ⟨ae, σ', S', hR', hend, hst', hfr⟩
  · refine ⟨_, σ', S', hR', ?_, hst', hfr⟩
    cases e with
    | returned v => exact hd _ _ _ hend
    | panicked chain => exact hend.elim
    | outgrown => exact hend.elim

/-- Arguments told more of. -/
theorem ACalls.args_le {f : FuncId} {args args' : List D} {R : AEnd → Store → Prop} (h : ACalls P f args' σ R) (ha : ∀ w S vs, RepL w S args vs → RepL w S args' vs) : ACalls P f args σ R :=
  fun w S vs hS hst hv => h w S vs hS hst (ha _ _ _ hv)

theorem sdel_fresh {b : Nat} (h : sget b σ = none) : sdel b σ = σ := by
  induction σ with
  | nil => rfl
  | cons p r ih =>
    obtain ⟨c, o⟩ := p
    rw [sget_cons] at h
    split at h
    · cases h
    · rename_i hbc
      rw [sdel, if_neg hbc, ih h]

@[simp] theorem sdel_self (b : Nat) (o : AObj) : sdel b ((b, o) :: σ) = sdel b σ := by rw [sdel, if_pos rfl]
theorem fresh_some {b : Nat} : Fresh (some b) σ ↔ sget b σ = none := ⟨fun h => h b rfl, fun h c hc => by cases hc; exact h⟩
theorem fresh_none : Fresh none σ := fun c hc => by cases hc

/-- A row that is told of in part. -/
theorem sle_cons {b : Nat} {o : AObj} (h : SLe σ σ') (hn : sget b σ = none) : SLe σ ((b, o) :: σ') := fun c x hc => by
  rw [sget_cons]
  split
  · rename_i hcb; subst hcb; rw [hn] at hc; cases hc
  · exact h c x hc

theorem sle_cons_cons {b : Nat} {o : AObj} (h : SLe σ σ') : SLe ((b, o) :: σ) ((b, o) :: σ') := fun c x hc => by
  rw [sget_cons] at hc ⊢
  split at hc
  · rename_i hcb; rw [if_pos hcb]; exact hc
  · rename_i hcb; rw [if_neg hcb]; exact h c x hc
theorem SLe.trans {σ'' : Store} (h : SLe σ σ') (h' : SLe σ' σ'') : SLe σ σ'' := fun b o hb => h' b o (h b o hb)
theorem sle_cells {ob : Option Nat} {sz : Nat} {xs : List D} (h : Fresh ob σ) : SLe σ (cellsOf ob sz xs ++ σ) := by
  cases ob with
  | none => exact SLe.refl σ
  | some b => exact sle_cons (SLe.refl σ) (h b rfl)
theorem none_of_sle {b : Nat} (h : SLe σ σ') (hb : sget b σ' = none) : sget b σ = none := by
  cases hs : sget b σ with
  | none => rfl
  | some o => rw [h b o hs] at hb; cases hb
theorem sdelo_cells {ob : Option Nat} {sz : Nat} {xs : List D} (h : Fresh ob σ) : sdelo ob (cellsOf ob sz xs ++ σ) = σ := by
  cases ob with
  | none => rfl
  | some b => show sdel b ((b, _) :: σ) = σ; rw [sdel_self, sdel_fresh (h b rfl)]

end

section region
variable {P : Program} {N : Slots} {C : Ctx P N} {K : Env → Store → Prop} {Qp : D → Store → Prop}

/-- What is to be shown of a region, where the operations that fill one of 'lit' make rows that are only read. -/
def vcM (P : Program) (N : Slots) (lit : List Nat) (ds : List (Option Nat)) (K : Env → Store → Prop) (Qp : D → Store → Prop) : List Oper → Env → Store → Prop
  | [], env, σ => K env σ
  | o :: rest, env, σ => vcStep P N lit ds Qp (vcM P N lit ds K Qp rest) o env σ

theorem vcM_sound {lit : List Nat} {ops : Array Oper} : ∀ (l : List Oper) (env : Env) (σ : Store) (a : Act) (w : World) (S : Nat → Prop), vcM P N lit (dsts ops) K Qp l env σ → a.defers = C.ds → Sim C env σ w S a.tmps → wpList P ops (QX C K Qp) l a w
  | [], env, σ, a, w, S, h, hd, hs => ⟨hd, env, σ, S, h, hs⟩
  | o :: rest, env, σ, a, w, S, h, hd, hs => by
    simp only [wpList]
    exact vcStep_sound h hd hs fun a w ⟨hd, env', σ', S', hn, hs'⟩ => vcM_sound rest env' σ' a w S' hn hd hs'

theorem Goes.regionM {id : Nat} {ops : Array Oper} {k : List Item} {env : Env} {σ : Store} (keep lit : List Nat)
    (h : ∀ K : Env → Store → Prop, (∀ env σ, Goes C k env σ → K env σ) → vcM P N lit (dsts ops) K (Pan C) ops.toList (Ab.rebase keep env) σ) : Goes C (.code (.region id ops false) :: k) env σ := by
  intro a w S hd hs
  have hv := h (Goes C k) (fun _ _ h => h)
  have hs' : Sim C (Ab.rebase keep env) σ w S a.tmps := ⟨hs.env.le (ele_rebase keep env), hs.store, hs.fr, hs.size⟩
  have hl := vcM_sound ops.toList _ σ a w S hv hd hs'
  have heq := wpOps_eq_wpList (P := P) (ops := ops) (Q := QX C (Goes C k) (Pan C)) ops.toList 0 (fun j => by simp)
  have : wpOps P ops (QX C (Goes C k) (Pan C)) (List.range ops.size) a w := by
    rw [List.range_eq_range', show ops.size = ops.toList.length by simp, heq]; exact hl
  have hwp := wp_region (id := id) this
  exact region_arrives (hwp C.b k C.cs)

end region
end Go.Ab
