/- Lists, bytes and numbers, as the walks ask for them. -/
import Derived.Test.YtcpcfglccnmmnaaAbX
set_option linter.unusedSimpArgs false
set_option linter.unusedVariables false
set_option linter.constructorNameAsVariable false
namespace Go.Ab
open Go

theorem bytesOf_bD (l : List UInt8) : bytesOf (l.map bD) = ⟨l.toArray⟩ := by
  unfold bytesOf
  rw [List.map_map, show byteOf ∘ bD = id from funext byteOf_bD, List.map_id]
theorem allByte_bD (l : List UInt8) : (l.map bD).all isByte = true := by
  rw [List.all_eq_true]
  intro x hx
  obtain ⟨c, _, rfl⟩ := List.mem_map.1 hx
  exact isByte_bD c
theorem getD_map_lt {α : Type} (f : α → D) (l : List α) (i : Nat) (h : i < l.length) : (l.map f).getD i .any = f l[i] := by
  rw [List.getD_eq_getElem?_getD, List.getElem?_map, List.getElem?_eq_getElem h]; rfl
theorem take_succ_flatMap {α β : Type} (f : α → List β) (l : List α) (i : Nat) (h : i < l.length) : (l.take (i + 1)).flatMap f = (l.take i).flatMap f ++ f l[i] := by
  rw [List.take_succ_eq_append_getElem h, List.flatMap_append]; simp
theorem flatMap_length_le {α β : Type} (f : α → List β) (n : Nat) : ∀ (l : List α), (∀ x ∈ l, (f x).length ≤ n) → (l.flatMap f).length ≤ l.length * n
  | [], _ => by simp
  | x :: l, h => by
    rw [List.flatMap_cons, List.length_append, List.length_cons, Nat.succ_mul]
    have h1 := h x (by simp)
    have h2 := flatMap_length_le f n l fun y hy => h y (by simp [hy])
    omega
theorem plain_bD (l : List UInt8) : ∀ x ∈ l.map bD, x.cells.length = 1 ∧ x.plain = true := fun x hx => by
  obtain ⟨c, _, rfl⟩ := List.mem_map.1 hx; exact ⟨rfl, rfl⟩
theorem size_mk (l : List UInt8) : (⟨l.toArray⟩ : ByteArray).size = l.length := by simp [ByteArray.size]
theorem ofList_data (s : ByteArray) : (⟨s.data.toList.toArray⟩ : ByteArray) = s := by cases s; simp
end Go.Ab
namespace Go.Ab
/-- A part of a piece of code: 0 the first, 1 the second. -/
def codeAt : Code → List Nat → Code
  | .seq a _, 0 :: p => codeAt a p
  | .seq _ b, _ :: p => codeAt b p
  | .cond _ a _, 0 :: p => codeAt a p
  | .cond _ _ b, _ :: p => codeAt b p
  | .loop a, _ :: p => codeAt a p
  | .block _ a, _ :: p => codeAt a p
  | c, _ => c
def bodyAt (f : Func) (p : List Nat) : Code := codeAt (f.body.getD .skip) p
end Go.Ab
namespace Go.Ab
/-- A row whose cells are told less of. -/
theorem Goes.row_le {P : Program} {N : Slots} {C : Ctx P N} {todo : List Item} {env : Env} {σ : Store} {b sz : Nat} {xs ys : List D} (hx : ∀ w S vs, RepL w S (flat xs) vs → RepL w S (flat ys) vs) (hs : ∀ y ∈ ys, y.cells.length = sz)
    (h : Goes C todo env ((b, .arr sz ys) :: σ)) : Goes C todo env ((b, .arr sz xs) :: σ) := by
  intro a w S hd hsim
  refine h a w S hd ⟨hsim.env, fun c o hc => ?_, { hsim.fr with dom := fun c hc => hsim.fr.dom c ?_ }, hsim.size⟩
  · rw [sget_cons] at hc
    by_cases hcb : c = b
    · rw [if_pos hcb] at hc
      cases hc
      obtain ⟨h1, c', e, lo, hi, vals, h2, h3, h4, h5, h6⟩ := hsim.store c (.arr sz xs) (by rw [sget_cons, if_pos hcb])
      exact ⟨h1, c', e, lo, hi, vals, h2, hx _ _ _ h3, h4, hs, h6⟩
    · rw [if_neg hcb] at hc
      exact hsim.store c o (by rw [sget_cons, if_neg hcb]; exact hc)
  · unfold sdom at *
    rw [sget_cons] at hc ⊢
    split at hc <;> simp_all
end Go.Ab
namespace Go.Ab
/-- A slice that is only read, told less of. -/
theorem DLe.slc {xs ys : List D} (h : ∀ w S vs, RepL w S (flat xs) vs → RepL w S (flat ys) vs) (hl : ys.map (·.cells.length) = xs.map (·.cells.length)) : DLe (.slc xs) (.slc ys) := by
  intro w S v hr
  have hlen : ys.length = xs.length := by simpa using congrArg List.length hl
  cases hr with
  | slc0 => have : ys = [] := List.eq_nil_of_length_eq_zero (by simpa using hlen); rw [this]; exact .slc0
  | slc hb hr hc hs hcap =>
    rename_i b off cap sz vals
    have hs' : ∀ y ∈ ys, y.cells.length = sz := fun y hy => by
      have : y.cells.length ∈ ys.map (·.cells.length) := List.mem_map_of_mem hy
      rw [hl] at this
      obtain ⟨x, hx, he⟩ := List.mem_map.1 this
      rw [← he]; exact hs x hx
    have := Rep.slc hb (h _ _ _ hr) hc hs' (by rw [hlen]; exact hcap)
    rw [hlen] at this
    exact this

/-- Bytes that grow, in a row of one's own. -/
structure Gr (o : Option Nat) (bs : List UInt8) (ρ : Store) : Prop where
  fresh : Fresh o ρ
  zero : o = none → bs = []

theorem Gr.oget {o : Option Nat} {bs : List UInt8} {ρ : Store} (h : Gr o bs ρ) : oget 1 o (cellsOf o 1 (bs.map bD) ++ ρ) = some (bs.map bD) := by
  cases o with
  | none => simp [Ab.oget, h.zero rfl]
  | some b => simp [cellsOf, Ab.oget]
theorem Gr.sdel {o : Option Nat} {bs : List UInt8} {ρ : Store} (h : Gr o bs ρ) : sdelo o (cellsOf o 1 (bs.map bD) ++ ρ) = ρ := sdelo_cells h.fresh
theorem Gr.keep {o : Option Nat} {bs : List UInt8} {ρ : Store} (h : Gr o bs ρ) {b : Nat} {x : AObj} (hb : sget b ρ = some x) : sget b (cellsOf o 1 (bs.map bD) ++ ρ) = some x := by
  cases o with
  | none => exact hb
  | some c =>
    have : b ≠ c := fun e => by have := h.fresh c rfl; rw [← e, hb] at this; cases this
    show sget b ((c, _) :: ρ) = _
    rw [sget_cons, if_neg this, hb]
theorem Gr.app {o ob : Option Nat} {bs ys : List UInt8} {ρ : Store} (h : Gr o bs ρ) (hz : ob = none → bs.map bD ++ ys.map bD = []) (hf : Fresh ob ρ) : Gr ob (bs ++ ys) ρ :=
  ⟨hf, fun e => by have := hz e; rw [← List.map_append] at this; simpa using this⟩
theorem take_map_bD (bs : List UInt8) : (bs.map bD).take bs.length = bs.map bD := List.take_of_length_le (by simp)
theorem Gr.nil (ρ : Store) : Gr none [] ρ := ⟨fresh_none, fun _ => rfl⟩
theorem Gr.sle {o : Option Nat} {bs : List UInt8} {ρ : Store} (h : Gr o bs ρ) : SLe ρ (cellsOf o 1 (bs.map bD) ++ ρ) := sle_cells h.fresh
end Go.Ab
namespace Go.Ab
section
variable {P : Program} {f : FuncId} {args : List D}
theorem ACalls.still {r : AEnd} (h : ACalls P f args [] (fun e σ' => e = r ∧ σ' = [])) (σ : Store) : ACalls P f args σ (fun e σ' => e = r ∧ σ' = σ) := by
  refine (h.quiet (σ := σ)).mono ?_
  rintro e σ' ⟨σ1, ⟨rfl, rfl⟩, _, rfl⟩
  exact ⟨rfl, rfl⟩

/-- A row that is handed back is only read from then on. -/
theorem ACalls.pub1 {R : AEnd → Store → Prop} {R' : AEnd → Prop} (h : ACalls P f args [] R) (hr : ∀ e σ', R e σ' → (R' e ∧ σ' = []) ∨ ∃ d b sz xs, e = .ret d ∧ σ' = [(b, .arr sz xs)] ∧ R' (.ret (d.pub b sz xs))) (σ : Store) :
    ACalls P f args σ (fun e σ' => R' e ∧ σ' = σ) := by
  have h2 : ACalls P f args [] (fun e σ' => R' e ∧ σ' = []) := by
    refine h.publish fun e σ' hR => ?_
    rcases hr e σ' hR with h3 | ⟨d, b, sz, xs, rfl, rfl, h3⟩
    · exact .inl h3
    · refine .inr ⟨d, b, sz, xs, rfl, sget_self .., h3, ?_⟩
      simp [spub]
  refine (h2.quiet (σ := σ)).mono ?_
  rintro e σ' ⟨σ1, ⟨h3, rfl⟩, _, rfl⟩
  exact ⟨h3, rfl⟩
end
end Go.Ab
namespace Go.Ab
/-- A row of one's own that grows. -/
structure GrD (o : Option Nat) (sz : Nat) (xs : List D) (ρ : Store) : Prop where
  fresh : Fresh o ρ
  zero : o = none → xs = []

theorem GrD.oget {o : Option Nat} {sz : Nat} {xs : List D} {ρ : Store} (h : GrD o sz xs ρ) : oget sz o (cellsOf o sz xs ++ ρ) = some xs := by
  cases o with
  | none => simp [Ab.oget, h.zero rfl]
  | some b => simp [cellsOf, Ab.oget]
theorem GrD.sdel {o : Option Nat} {sz : Nat} {xs : List D} {ρ : Store} (h : GrD o sz xs ρ) : sdelo o (cellsOf o sz xs ++ ρ) = ρ := sdelo_cells h.fresh
theorem GrD.keep {o : Option Nat} {sz : Nat} {xs : List D} {ρ : Store} (h : GrD o sz xs ρ) {b : Nat} {x : AObj} (hb : sget b ρ = some x) : sget b (cellsOf o sz xs ++ ρ) = some x := by
  cases o with
  | none => exact hb
  | some c =>
    have : b ≠ c := fun e => by have := h.fresh c rfl; rw [← e, hb] at this; cases this
    show sget b ((c, _) :: ρ) = _
    rw [sget_cons, if_neg this, hb]
theorem GrD.nil (sz : Nat) (ρ : Store) : GrD none sz [] ρ := ⟨fresh_none, fun _ => rfl⟩
theorem GrD.sle {o : Option Nat} {sz : Nat} {xs : List D} {ρ : Store} (h : GrD o sz xs ρ) : SLe ρ (cellsOf o sz xs ++ ρ) := sle_cells h.fresh
theorem GrD.none_of {o : Option Nat} {sz : Nat} {xs : List D} {ρ : Store} (h : GrD o sz xs ρ) {b : Nat} (hb : sget b (cellsOf o sz xs ++ ρ) = none) : sget b ρ = none ∧ o ≠ some b := by
  refine ⟨none_of_sle h.sle hb, fun e => ?_⟩
  rw [e] at hb; simp [cellsOf, sget] at hb
/-- A new row put behind. -/
theorem GrD.push {o : Option Nat} {sz : Nat} {xs : List D} {ρ : Store} (h : GrD o sz xs ρ) {b : Nat} {x : AObj} (hb : sget b (cellsOf o sz xs ++ ρ) = none) : GrD o sz xs ((b, x) :: ρ) ∧ SLe (cellsOf o sz xs ++ (b, x) :: ρ) ((b, x) :: (cellsOf o sz xs ++ ρ)) := by
  obtain ⟨h1, h2⟩ := h.none_of hb
  refine ⟨⟨fun c hc => ?_, h.zero⟩, SLe.append (sle_cons (SLe.append_left _ _) ?_) ?_⟩
  · rw [sget_cons, if_neg (fun e => h2 (by rw [hc, e]))]; exact h.fresh c hc
  · cases o with
    | none => rfl
    | some c => simp [cellsOf, sget]; exact fun e => h2 (by rw [e])
  · exact sle_cons_cons h.sle
theorem GrD.drop {o : Option Nat} {sz : Nat} {xs : List D} {ρ : Store} {b : Nat} {x : AObj} (h : GrD o sz xs ((b, x) :: ρ)) (hb : sget b ρ = none) : GrD o sz xs ρ ∧ SLe (cellsOf o sz xs ++ ρ) (cellsOf o sz xs ++ (b, x) :: ρ) := by
  refine ⟨⟨fun c hc => ?_, h.zero⟩, ?_⟩
  · have := h.fresh c hc
    rw [sget_cons] at this
    split at this
    · cases this
    · exact this
  · refine SLe.append (SLe.append_left _ _) ((sle_cons (SLe.refl _) hb).trans h.sle)
theorem GrD.app {o ob : Option Nat} {sz : Nat} {xs ys : List D} {ρ : Store} (_h : GrD o sz xs ρ) (hz : ob = none → xs ++ ys = []) (hf : Fresh ob ρ) : GrD ob sz (xs ++ ys) ρ := ⟨hf, hz⟩
end Go.Ab
namespace Go.Ab
theorem plain_mapF {α : Type} (f : α → D) (n : Nat) (hf : ∀ x, (f x).cells.length = n ∧ (f x).plain = true) (l : List α) : ∀ y ∈ l.map f, y.cells.length = n ∧ y.plain = true := fun y hy => by
  obtain ⟨c, _, rfl⟩ := List.mem_map.1 hy; exact hf c
end Go.Ab
