/- The steps of a region, part 4: a store. -/
import Derived.Test.YtcpcfglccnmmnaaAbF
import Derived.Laws.IdiomCopy
set_option linter.unusedSimpArgs false
set_option linter.unusedVariables false
set_option linter.constructorNameAsVariable false
namespace Go.Ab
open Go

theorem setCells_heap (b : Nat) (e : TypeId) (fr : Nat × Nat) : ∀ (vs : List Value) (o : Nat) (w : World) (c : Array Value), w.heap[b]? = some (.cells c e fr) → o + vs.length ≤ c.size →
    ∃ c', (w.setCells b o vs).heap[b]? = some (.cells c' e fr) ∧ c'.size = c.size ∧ ∀ k, c'[k]? = if o ≤ k ∧ k < o + vs.length then vs[k - o]? else c[k]?
  | [], o, w, c, h, _ => ⟨c, h, rfl, fun k => by
      rw [if_neg]
      simp only [List.length_nil]; omega⟩
  | v :: vs, o, w, c, h, hl => by
    have hlt := (Array.getElem?_eq_some_iff.1 h).1
    have h1 : (w.setCell ⟨b, o, none⟩ v).heap[b]? = some (.cells (c.setIfInBounds o v) e fr) := by
      show (w.heap.modify b _)[b]? = _
      rw [Array.getElem?_modify, if_pos rfl, h]
      simp
    obtain ⟨c', h2, h3, h4⟩ := setCells_heap b e fr vs (o + 1) (w.setCell ⟨b, o, none⟩ v) (c.setIfInBounds o v) h1 (by simp at hl ⊢; omega)
    refine ⟨c', h2, by simpa using h3, fun k => ?_⟩
    rw [h4]
    simp only [List.length_cons] at hl ⊢
    by_cases hk : o + 1 ≤ k ∧ k < o + 1 + vs.length
    · rw [if_pos hk, if_pos (by omega)]
      rw [show k - o = (k - (o + 1)) + 1 by omega]; simp
    · rw [if_neg hk]
      by_cases hko : k = o
      · subst hko
        rw [if_pos (by omega)]
        simp only [Nat.sub_self, List.getElem?_cons_zero, Array.getElem?_setIfInBounds, if_pos]
        rw [if_pos (by omega)]
      · rw [if_neg (by omega)]
        rw [Array.getElem?_setIfInBounds, if_neg (fun h => hko h.symm)]

theorem setCells_other (b : Nat) : ∀ (vs : List Value) (o : Nat) (w : World) (k : Nat), k ≠ b → (w.setCells b o vs).heap[k]? = w.heap[k]?
  | [], _, _, _, _ => rfl
  | v :: vs, o, w, k, h => by
    show ((w.setCell ⟨b, o, none⟩ v).setCells b (o + 1) vs).heap[k]? = _
    rw [setCells_other b vs (o + 1) _ k h]
    simp only [World.setCell, Array.getElem?_modify]
    rw [if_neg (fun hh => h hh.symm)]

theorem setCells_fields (b : Nat) : ∀ (vs : List Value) (o : Nat) (w : World), (w.setCells b o vs).os = w.os ∧ (w.setCells b o vs).tape = w.tape ∧ (w.setCells b o vs).output = w.output ∧ (w.setCells b o vs).heap.size = w.heap.size
  | [], _, _ => ⟨rfl, rfl, rfl, rfl⟩
  | v :: vs, o, w => by
    obtain ⟨h1, h2, h3, h4⟩ := setCells_fields b vs (o + 1) (w.setCell ⟨b, o, none⟩ v)
    exact ⟨h1, h2, h3, by rw [show (w.setCells b o (v :: vs)) = ((w.setCell ⟨b, o, none⟩ v).setCells b (o + 1) vs) from rfl, h4]; simp⟩

/-- One row of one's own is turned: the frame of it. -/
theorem fr_row {w w' : World} {S : Nat → Prop} {σ : Store} {b : Nat} {x y : AObj} (hl : ∀ b, S b → b < w.heap.size) (hs : sget b σ = some x) (h1 : w'.os = w.os) (h2 : w'.tape = w.tape) (h3 : w'.output = w.output) (h4 : w'.heap.size = w.heap.size)
    (ho : ∀ k, k ≠ b → w'.heap[k]? = w.heap[k]?) (hsh : Shape w w') : Fr w S (sdom σ) w' S (sset b y σ) where
  os := h1
  tape := h2
  output := h3
  size := by omega
  shape := hsh
  block := fun k _ hk => ho k (fun e => by subst e; exact hk (by unfold sdom; rw [hs]; simp))
  mono := fun _ h => h
  new := fun _ h => .inl h
  dom := fun k hk => by
    unfold sdom at *
    rw [sget_sset] at hk
    by_cases hkb : k = b
    · subst hkb; left; rw [hs]; simp
    · rw [if_neg hkb] at hk; exact .inl hk
  lt := fun k hk => by have := hl k hk; omega

theorem shape_row {w w' : World} {b : Nat} (ho : ∀ k, k ≠ b → w'.heap[k]? = w.heap[k]?) {c c' : Array Value} {e : TypeId} {fr : Nat × Nat} (h : w.heap[b]? = some (.cells c e fr)) (h' : w'.heap[b]? = some (.cells c' e fr)) (hsz : c'.size = c.size) : Shape w w' := by
  intro k x e' fr' hk
  by_cases hkb : k = b
  · subst hkb
    rw [h] at hk
    cases hk
    exact ⟨c', _, h', hsz⟩
  · exact ⟨x, fr', (ho k hkb).trans hk, rfl⟩

theorem store_row {w w' : World} {S : Nat → Prop} {σ : Store} {b : Nat} {y : AObj} (h : RepStore w S σ) (hE : Ev w S w' S) (ho : ∀ k, k ≠ b → w'.heap[k]? = w.heap[k]?) (hS : ¬ S b) (hy : RepObj w' S b y) : RepStore w' S (sset b y σ) := by
  intro k o hk
  rw [sget_sset] at hk
  by_cases hkb : k = b
  · subst hkb
    rw [if_pos rfl] at hk
    cases hs : sget k σ with
    | none => rw [hs] at hk; cases hk
    | some x => rw [hs] at hk; cases hk; exact ⟨hS, hy⟩
  · rw [if_neg hkb] at hk
    obtain ⟨h1, h2⟩ := h k o hk
    exact ⟨h1, h2.ev hE (ho k hkb)⟩

theorem RepL.of_get {w : World} {S : Nat → Prop} : ∀ {ds : List D} {xs : List Value}, xs.length = ds.length → (∀ (i : Nat) (d : D), ds[i]? = some d → ∃ x, xs[i]? = some x ∧ Rep w S d x) → RepL w S ds xs
  | [], [], _, _ => .nil
  | [], x :: xs, h, _ => by simp at h
  | d :: ds, [], h, _ => by simp at h
  | d :: ds, x :: xs, h, hg => by
    obtain ⟨y, hy, hr⟩ := hg 0 d (by simp)
    simp at hy; subst hy
    exact .cons hr (RepL.of_get (by simpa using h) fun i d hd => by
      obtain ⟨y, hy, hr⟩ := hg (i + 1) d (by simpa using hd)
      exact ⟨y, by simpa using hy, hr⟩)

theorem putc_cells {old x : D} {o n sz : Nat} (hold : old.cells.length = sz) (hx : x.cells.length = n) (ho : o + n ≤ sz) (hc : (∃ cs, old = .agg cs) ∨ (n = sz ∧ o = 0)) :
    (putc old o x).cells = old.cells.take o ++ x.cells ++ old.cells.drop (o + n) := by
  rcases hc with ⟨cs, rfl⟩ | ⟨rfl, rfl⟩
  · show cs.take o ++ x.cells ++ cs.drop (o + x.cells.length) = _
    rw [hx]; rfl
  · unfold putc
    split
    · rename_i cs
      have hcs : cs.length = n := hold
      show cs.take 0 ++ x.cells ++ cs.drop (0 + x.cells.length) = _
      rw [hx]; rfl
    · have : old.cells.drop (0 + n) = [] := List.drop_of_length_le (by omega)
      rw [this]; simp

section steps
variable {P : Program} {N : Slots} {C : Ctx P N} {env : Env} {σ : Store} {a : Act} {w : World} {S : Nat → Prop} {o : Oper}
variable {Qp : D → Store → Prop} {next : Env → Store → Prop} {nx : Act → World → Prop} {Q : Exit → Act → World → Prop}

theorem plain_one {d : D} {v : Value} (h : Rep w S d v) (hp : d.plain = true) : ∀ x ∈ v.cells.toList, x.oneCell' = true := by
  have hr := rep_cells h hp
  unfold D.plain at hp
  simp only [Bool.and_eq_true, List.all_eq_true] at hp
  exact hr.one_cell hp.2

theorem s_store (h : Sim C env σ w S a.tmps) (hd0 : a.defers = C.ds) (hN : dstOk N o.dst) (hnx : ∀ a w, NX C next a w → nx a w) {T : TypeId} {x y : Operand} (ho : o.op = .store T x y)
    (hv : vcRes P Qp next o.dst env σ (aStore P σ T (ev env x) (ev env y))) : o.wp P a w nx Q := by
  unfold aStore at hv
  have hx := ev_rep h x
  have hy := ev_rep h y
  split at hv
  · rename_i n b sz i off hn hd
    rw [hd] at hx
    have he := ptr_inv hx
    split at hv
    · rename_i sz' xs hs
      obtain ⟨⟨rfl, hi, hlen, hpl, hle, hcase⟩, hk⟩ := hv
      obtain ⟨hSb, hobj⟩ := h.store b _ hs
      have hobj' := hobj
      obtain ⟨c, e, lo, hi', vals, hh, hr, hc, hsz, hfz⟩ := hobj
      have hcl := rep_cells hy hpl
      have hvl : (a.eval y).cells.toList.length = n := by rw [hcl.length, hlen]
      have hcs : (a.eval y).cells.size = n := by simpa using hvl
      have hvalsl : vals.length = xs.length * sz' := by rw [hr.length, flat_length xs sz' hsz]
      have hend : i * sz' + sz' ≤ vals.length := by
        rw [hvalsl, ← Nat.succ_mul]; exact Nat.mul_le_mul_right _ hi
      have hcsz : ∀ k, k < vals.length → k < c.size := fun k hk => by
        obtain ⟨v, hv⟩ : ∃ v, vals[k]? = some v := ⟨vals[k], by simp [hk]⟩
        exact (Array.getElem?_eq_some_iff.1 (hc k v hv)).1
      have hcbig : i * sz' + off + (a.eval y).cells.toList.length ≤ c.size := by
        rw [hvl]
        rcases Nat.eq_zero_or_pos (i * sz' + off + n) with hz | hz
        · omega
        · have := hcsz (i * sz' + off + n - 1) (by omega); omega
      obtain ⟨c', hc'1, hc'2, hc'3⟩ := setCells_heap b e (lo, hi') (a.eval y).cells.toList (i * sz' + off) w c hh hcbig
      have hst := run_storeCells_cells (P := P) b (i * sz' + off) (a.eval y).cells.toList 0 w
        (fun j hj => by
          rw [cells_of_row hh]
          rw [Array.getElem?_eq_getElem (by omega)]; rfl)
        (fun j hj => by
          have : i * sz' + off + 0 + j < c.size := by omega
          unfold World.frozen?
          simp only [hh]
          simp; omega)
        (plain_one hy hpl)
      simp only [Nat.add_zero] at hst
      have hother := fun k hk => setCells_other b (a.eval y).cells.toList (i * sz' + off) w k hk
      obtain ⟨f1, f2, f3, f4⟩ := setCells_fields b (a.eval y).cells.toList (i * sz' + off) w
      have hsh := shape_row hother hh hc'1 hc'2
      have hfr := fr_row (y := .arr sz' (xs.set i (putc (xs.getD i .any) off (ev env y)))) h.fr.lt hs f1 f2 f3 f4 hother hsh
      have hE := sim_ev h hfr
      have hold : (xs.getD i .any).cells.length = sz' := by rw [getD_lt _ _ _ hi]; exact hsz _ (List.getElem_mem hi)
      have hpc := putc_cells (x := ev env y) hold hlen hle hcase
      have hpl' : (putc (xs.getD i .any) off (ev env y)).cells.length = sz' := by
        rw [hpc, List.length_append, List.length_append, List.length_take, List.length_drop, hold, hlen]; omega
      have hnew : RepObj (w.setCells b (i * sz' + off) (a.eval y).cells.toList) S b (.arr sz' (xs.set i (putc (xs.getD i .any) off (ev env y)))) := by
        refine ⟨c', e, lo, hi', vals.take (i * sz' + off) ++ (a.eval y).cells.toList ++ vals.drop (i * sz' + off + n), hc'1, ?_, ?_, ?_, by rw [hc'2]; exact hfz⟩
        · rw [flat_set xs sz' hsz i _ hi hpl', hpc]
          have hr' := hr.ev hE
          have e1 : (flat xs).take (i * sz') ++ ((xs.getD i .any).cells.take off ++ (ev env y).cells ++ (xs.getD i .any).cells.drop (off + n)) ++ (flat xs).drop (i * sz' + sz') =
              (flat xs).take (i * sz' + off) ++ (ev env y).cells ++ (flat xs).drop (i * sz' + off + n) := by
            have hfl : (flat xs).length = xs.length * sz' := flat_length xs sz' hsz
            have hseg : ((flat xs).drop (i * sz')).take sz' = (xs.getD i .any).cells := by
              apply List.ext_getElem?
              intro j
              rw [List.getElem?_take]
              by_cases hj : j < sz'
              · rw [if_pos hj, List.getElem?_drop, flat_getD xs sz' hsz i hi j hj]
              · rw [if_neg hj, List.getElem?_eq_none (by omega)]
            rw [← hseg]
            have t1 : (flat xs).take (i * sz' + off) = (flat xs).take (i * sz') ++ (((flat xs).drop (i * sz')).take sz').take off := by
              rw [List.take_take, Nat.min_eq_left (by omega), ← List.take_add]
            have t2 : (flat xs).drop (i * sz' + off + n) = (((flat xs).drop (i * sz')).take sz').drop (off + n) ++ (flat xs).drop (i * sz' + sz') := by
              rw [List.drop_take, ← List.drop_drop]
              have := List.take_append_drop (sz' - (off + n)) (((flat xs).drop (i * sz')).drop (off + n))
              rw [List.drop_drop, List.drop_drop] at this
              rw [show i * sz' + (off + n) + (sz' - (off + n)) = i * sz' + sz' by omega] at this
              rw [List.drop_drop, List.drop_drop, show i * sz' + (off + n) = i * sz' + off + n by omega] at *
              exact this.symm
            rw [t1, t2]
            simp [List.append_assoc]
          rw [e1]
          exact ((hr'.take _).append (hcl.ev hE)).append (hr'.drop _)
        · intro k v hkv
          rw [hc'3]
          by_cases hin : i * sz' + off ≤ k ∧ k < i * sz' + off + (a.eval y).cells.toList.length
          · rw [if_pos hin]
            rw [List.append_assoc, List.getElem?_append_right (by simp; omega), List.getElem?_append_left (by simp at *; omega)] at hkv
            simp only [List.length_take] at hkv
            rw [show k - min (i * sz' + off) vals.length = k - (i * sz' + off) by omega] at hkv
            exact hkv
          · rw [if_neg hin]
            apply hc
            by_cases hlt : k < i * sz' + off
            · rw [List.append_assoc, List.getElem?_append_left (by simp; omega), List.getElem?_take, if_pos hlt] at hkv
              exact hkv
            · rw [List.getElem?_append_right (by simp at *; omega), List.getElem?_drop] at hkv
              simp only [List.length_append, List.length_take] at hkv
              rw [show i * sz' + off + n + (k - (min (i * sz' + off) vals.length + (a.eval y).cells.toList.length)) = k by omega] at hkv
              exact hkv
        · intro z hz
          rcases List.mem_or_eq_of_mem_set hz with hz | hz
          · exact hsz z hz
          · rw [hz]; exact hpl'
      refine step_skip_ok h hd0 hN hnx (w' := w.setCells b (i * sz' + off) (a.eval y).cells.toList) ?_ (store_row h.store hE hother hSb hnew) hfr hk
      simp [execOp, ho, he, Instr.storeAt, Instr.sureAddr, storeVar, run_sizeOf hn, hcs, hst]
    · exact hv.elim
  · exact hv.elim

end steps
end Go.Ab
