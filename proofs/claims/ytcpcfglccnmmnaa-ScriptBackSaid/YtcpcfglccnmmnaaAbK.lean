/- The steps of a region, part 8: structs and slices written out, makes, lengths, asserts, strings gone through. -/
import Derived.Test.YtcpcfglccnmmnaaAbJ
set_option linter.unusedSimpArgs false
set_option linter.unusedVariables false
set_option linter.constructorNameAsVariable false
namespace Go.Ab
open Go

section
variable {P : Program} {w : World} {S : Nat → Prop}

/-- Cells laid over others. -/
theorem foldl_lay (c : Array Value) (off : Nat) : ∀ (xs : List Value) (j : Nat), off + j + xs.length ≤ c.size →
    ((xs.zipIdx j).foldl (fun cs (p : Value × Nat) => cs.setIfInBounds (off + p.2) p.1) c).toList = c.toList.take (off + j) ++ xs ++ c.toList.drop (off + j + xs.length)
  | [], j, h => by simp
  | x :: xs, j, h => by
    simp only [List.zipIdx_cons, List.foldl_cons]
    rw [foldl_lay (c.setIfInBounds (off + j) x) off xs (j + 1) (by simp at h ⊢; omega)]
    have hlt : off + j < c.size := by simp at h; omega
    simp only [Array.toList_setIfInBounds, List.length_cons]
    rw [show off + (j + 1) = off + j + 1 by omega, List.take_add_one, List.take_set_of_le (by omega), List.drop_set_of_lt (by omega)]
    rw [List.getElem?_set_self (by simpa using hlt)]
    rw [show off + j + 1 + xs.length = off + j + (xs.length + 1) by omega]
    simp

theorem lay_cells (c : Array Value) (off : Nat) (v : Value) (h : off + v.cells.size ≤ c.size) :
    (v.cells.zipIdx.foldl (fun cs (p : Value × Nat) => cs.setIfInBounds (off + p.2) p.1) c).toList = c.toList.take off ++ v.cells.toList ++ c.toList.drop (off + v.cells.size) := by
  rw [← Array.foldl_toList, Array.toList_zipIdx]
  have := foldl_lay c off v.cells.toList 0 (by simpa using h)
  simpa using this

theorem RepL.lay {cs xs : List D} {vals vs : List Value} (h : RepL w S cs vals) (hx : RepL w S xs vs) (o n : Nat) : RepL w S (cs.take o ++ xs ++ cs.drop n) (vals.take o ++ vs ++ vals.drop n) :=
  ((h.take o).append hx).append (h.drop n)

theorem mapM_get {α β : Type} {f : α → Option β} : ∀ {xs : List α} {ys : List β}, xs.mapM f = some ys → ∀ (i : Nat) (x : α), xs[i]? = some x → ∃ y, f x = some y ∧ ys[i]? = some y
  | [], ys, h, i, x, hx => by simp at hx
  | z :: xs, ys, h, i, x, hx => by
    simp only [List.mapM_cons, Option.bind_eq_bind, Option.pure_def, Option.bind_eq_some_iff] at h
    obtain ⟨y, hy, zs, hzs, h⟩ := h
    cases h
    cases i with
    | zero => simp at hx; subst hx; exact ⟨y, hy, rfl⟩
    | succ i => simpa using mapM_get hzs i x (by simpa using hx)

end

section steps
variable {P : Program} {N : Slots} {C : Ctx P N} {env : Env} {σ : Store} {a : Act} {w : World} {S : Nat → Prop} {o : Oper}
variable {Qp : D → Store → Prop} {next : Env → Store → Prop} {nx : Act → World → Prop} {Q : Exit → Act → World → Prop}

theorem parts_rep (h : Sim C env σ w S a.tmps) : ∀ (ps : List (Nat × Operand)), RepL w S ((ps.map fun p => (p.1, ev env p.2)).map (·.2)) ((ps.map fun p => (p.1, a.eval p.2)).map (·.2))
  | [] => .nil
  | p :: ps => .cons (ev_rep h p.2) (parts_rep h ps)

theorem fill_ok {T : TypeId} {fs : Array Field} {place : Nat → Option (Nat × Nat)} (hT : P.underlying T = some (.struct fs)) (hpl : ∀ (i : Nat) (F : Field), fs[i]? = some F → ∃ n, rsize P F.type = some n ∧ place i = some (F.offset, n)) :
    ∀ (ps : List (Nat × D)) (vs : List (Nat × Value)) (cs out : List D) (c : Array Value), aFill P T ps cs = some out → ps.map (·.1) = vs.map (·.1) → RepL w S (ps.map (·.2)) (vs.map (·.2)) → RepL w S cs c.toList →
      ∃ c', Instr.fill place c vs = some c' ∧ RepL w S out c'.toList
  | [], vs, cs, out, c, h, hk, hr, hc => by
    have : vs = [] := by cases vs with | nil => rfl | cons v vs => simp at hk
    subst this
    simp only [aFill, Option.some.injEq] at h; subst h
    exact ⟨c, rfl, hc⟩
  | (i, x) :: ps, vs, cs, out, c, h, hk, hr, hc => by
    cases vs with
    | nil => simp at hk
    | cons v vs =>
      obtain ⟨j, v⟩ := v
      simp only [List.map_cons, List.cons.injEq] at hk
      obtain ⟨rfl, hk⟩ := hk
      simp only [List.map_cons] at hr
      obtain ⟨v', vs', e, hrx, hrs⟩ := hr.cons_inv
      cases e
      simp only [aFill] at h
      split at h
      · rename_i F hF
        obtain ⟨fs', hfs', hF'⟩ := rfield_eq hF
        rw [hT] at hfs'; cases hfs'
        split at h
        · rename_i hcond
          obtain ⟨h1, h2, h3⟩ := hcond
          obtain ⟨n, hn, hp⟩ := hpl _ F hF'
          rw [h1] at hn; cases hn
          have hcl := rep_cells hrx h3
          have hsz : v.cells.size = x.cells.length := by have := hcl.length; simpa using this
          have hcsz : c.size = cs.length := by have := hc.length; simpa using this
          obtain ⟨c', hf, hr'⟩ := fill_ok hT hpl ps vs _ out (v.cells.zipIdx.foldl (fun cs (p : Value × Nat) => cs.setIfInBounds (F.offset + p.2) p.1) c) h hk hrs (by
            rw [lay_cells c F.offset v (by omega), hsz]
            exact hc.lay hcl F.offset (F.offset + x.cells.length))
          refine ⟨c', ?_, hr'⟩
          simp only [Instr.fill, hp]
          rw [if_neg (by simp; omega)]
          exact hf
        · cases h
      · cases h

theorem s_build (h : Sim C env σ w S a.tmps) (hd0 : a.defers = C.ds) (hN : dstOk N o.dst) (hnx : ∀ a w, NX C next a w → nx a w) {T : TypeId} {ps : Array (Nat × Operand)} (ho : o.op = .build T ps)
    (hv : vcRes P Qp next o.dst env σ (aBuild P T (ps.toList.map fun p => (p.1, ev env p.2)))) : o.wp P a w nx Q := by
  unfold aBuild at hv
  split at hv
  · rename_i z hz
    split at hv
    · rename_i hc
      obtain ⟨hst, hok⟩ := hc
      split at hv
      · rename_i cs hcs
        split at hv
        · rename_i out hout
          have hzr : Rep w S (.agg cs) z := by rw [← hcs]; exact rep_ofV hok
          obtain ⟨vals, rfl, hr⟩ := agg_inv hzr
          unfold placesOk at hst
          split at hst
          · rename_i fs hT
            obtain ⟨pl, hpl⟩ := Option.isSome_iff_exists.1 hst
            have hget : ∀ (i : Nat) (F : Field), fs[i]? = some F → ∃ n, rsize P F.type = some n ∧ pl.toArray[i]? = some (F.offset, n) := by
              intro i F hF
              obtain ⟨y, hy, hys⟩ := mapM_get hpl i F (by simpa using hF)
              simp only [Option.map_eq_some_iff] at hy
              obtain ⟨inf, hinf, rfl⟩ := hy
              exact ⟨inf.size, by simp [rsize, hinf], by simpa using hys⟩
            obtain ⟨c', hf, hr'⟩ := fill_ok (place := fun i => pl.toArray[i]?) hT hget _ ((ps.toList.map fun p => (p.1, a.eval p.2))) cs out vals.toArray hout (by simp) (parts_rep h ps.toList) (by simpa using hr)
            have hb : P.built T (ps.map fun p => (p.1, a.eval p.2)).toList = some c' := by
              unfold rzero at hz
              unfold Program.built
              cases hit : P.info? T with
              | none => rw [hit] at hz; simp at hz
              | some it =>
                rw [hit] at hz
                simp only [Option.bind_some] at hz
                simp only [hT, hz, hpl]
                simpa [Value.cells] using hf
            refine step_val h hd0 hN hnx (v := .agg c') ?_ (by simpa using Rep.agg hr') hv.2
            have := run_build w T _ c' hb
            simp only [execOp, ho]
            rw [Sem.run_bind, this]; rfl
          · cases hst
        · exact hv.elim
      · exact hv.elim
    · exact hv.elim
  · exact hv.elim

end steps
end Go.Ab
