/- The steps of a region, part 9: slices written out, makes, lengths, asserts, strings gone through, maps. -/
import Derived.Test.YtcpcfglccnmmnaaAbK
set_option linter.unusedSimpArgs false
set_option linter.unusedVariables false
set_option linter.constructorNameAsVariable false
namespace Go.Ab
open Go

section
variable {P : Program} {w : World} {S : Nat → Prop}

theorem made_zeros {d : D} {vc : Array Value} {n len : Nat} (hr : RepL w S d.cells vc.toList) (hn : d.cells.length = n) : RepL w S (flat (List.replicate len d)) ((Array.range (len * n)).map (vc[· % vc.size]!)).toList := by
  have hs : ∀ x ∈ List.replicate len d, x.cells.length = n := fun x hx => by rw [(List.mem_replicate.1 hx).2]; exact hn
  have hfl : (flat (List.replicate len d)).length = len * n := by rw [flat_length _ n hs]; simp
  have hvs : vc.size = n := by have := hr.length; simp [hn] at this; exact this
  refine RepL.of_get (by simp [hfl]) fun k x hx => ?_
  have hk : k < len * n := by have := (List.getElem?_eq_some_iff.1 hx).1; omega
  have hnp : 0 < n := by
    rcases Nat.eq_zero_or_pos n with h | h
    · subst h; simp at hk
    · exact h
  have hi : k / n < len := (Nat.div_lt_iff_lt_mul hnp).2 hk
  have hj : k % n < n := Nat.mod_lt _ hnp
  have hk' : k = k / n * n + k % n := by rw [Nat.mul_comm]; exact (Nat.div_add_mod k n).symm
  rw [hk', flat_getD _ n hs (k / n) (by simpa using hi) (k % n) hj] at hx
  have : (List.replicate len d).getD (k / n) .any = d := by rw [getD_lt _ _ _ (by simpa using hi)]; simp
  rw [this] at hx
  obtain ⟨v, hv, hrep⟩ := hr.get _ x hx
  refine ⟨v, ?_, hrep⟩
  have hlt : k % n < vc.size := by omega
  simp only [Array.toList_map, List.getElem?_map, Array.toList_range, hvs]
  rw [List.getElem?_range hk]
  simp only [Option.map_some, Option.some.injEq]
  rw [getElem!_pos vc (k % n) hlt]
  have : vc.toList[k % n]? = some vc[k % n] := by simp [hlt]
  rw [this] at hv
  exact Option.some.inj hv

theorem fillSlice_ok {n len : Nat} : ∀ (ps : List (Nat × D)) (vs : List (Nat × Value)) (xs out : List D) (c : Array Value), aFillSlice n ps xs = some out → ps.map (·.1) = vs.map (·.1) → RepL w S (ps.map (·.2)) (vs.map (·.2)) →
    (∀ x ∈ xs, x.cells.length = n) → xs.length = len → RepL w S (flat xs) c.toList →
      ∃ c', Instr.fill (fun i => some (i * n, n)) c vs = some c' ∧ RepL w S (flat out) c'.toList ∧ (∀ x ∈ out, x.cells.length = n) ∧ out.length = len
  | [], vs, xs, out, c, h, hk, hr, hs, hl, hc => by
    have : vs = [] := by cases vs with | nil => rfl | cons v vs => simp at hk
    subst this
    simp only [aFillSlice, Option.some.injEq] at h; subst h
    exact ⟨c, rfl, hc, hs, hl⟩
  | (i, x) :: ps, vs, xs, out, c, h, hk, hr, hs, hl, hc => by
    cases vs with
    | nil => simp at hk
    | cons v vs =>
      obtain ⟨j, v⟩ := v
      simp only [List.map_cons, List.cons.injEq] at hk
      obtain ⟨rfl, hk⟩ := hk
      simp only [List.map_cons] at hr
      obtain ⟨v', vs', e, hrx, hrs⟩ := hr.cons_inv
      cases e
      simp only [aFillSlice] at h
      split at h
      · rename_i hcond
        obtain ⟨h1, h2, h3⟩ := hcond
        have hcl := rep_cells hrx h2
        have hsz : v.cells.size = n := by have := hcl.length; simpa [h1] using this
        have hfl := flat_length xs n hs
        have hcsz : c.size = xs.length * n := by have := hc.length; rw [hfl] at this; simpa using this
        have hin : i * n + n ≤ xs.length * n := by rw [← Nat.succ_mul]; exact Nat.mul_le_mul_right _ h3
        obtain ⟨c', hf, hr', hs', hl'⟩ := fillSlice_ok (n := n) (len := len) ps vs _ out (v.cells.zipIdx.foldl (fun cs (p : Value × Nat) => cs.setIfInBounds (i * n + p.2) p.1) c) h hk hrs
          (fun y hy => by rcases List.mem_or_eq_of_mem_set hy with hy | hy; exact hs y hy; rw [hy]; exact h1) (by simpa using hl) (by
            rw [lay_cells c (i * n) v (by omega), hsz, flat_set xs n hs i x h3 h1]
            exact hc.lay hcl _ _)
        refine ⟨c', ?_, hr', hs', hl'⟩
        simp only [Instr.fill]
        rw [if_neg (by simp; omega)]
        exact hf
      · cases h

end

section steps
variable {P : Program} {N : Slots} {C : Ctx P N} {env : Env} {σ : Store} {a : Act} {w : World} {S : Nat → Prop} {o : Oper}
variable {Qp : D → Store → Prop} {next : Env → Store → Prop} {nx : Act → World → Prop} {Q : Exit → Act → World → Prop}

theorem s_buildSlice (h : Sim C env σ w S a.tmps) (hd0 : a.defers = C.ds) (hN : dstOk N o.dst) (hnx : ∀ a w, NX C next a w → nx a w) {T : TypeId} {len : Nat} {ps : Array (Nat × Operand)} (ho : o.op = .buildSlice T len ps)
    (hv : vcRes P Qp next o.dst env σ (aBuildSlice P T len (ps.toList.map fun p => (p.1, ev env p.2)))) : o.wp P a w nx Q := by
  unfold aBuildSlice at hv
  split at hv
  · rename_i e he
    split at hv
    · rename_i n z hn hz
      split at hv
      · rename_i xs hxs
        obtain ⟨⟨h1, h2, h3, h4, h5⟩, hk⟩ := hv
        have hzr : Rep w S (ofV z) z := rep_ofV h1
        have hzc := rep_cells hzr h3
        have hzs : z.cells.size = n := by have := hzc.length; simpa [h2] using this
        obtain ⟨c', hf, hr', hs', hl'⟩ := fillSlice_ok (n := n) (len := len) _ (ps.toList.map fun p => (p.1, a.eval p.2)) _ xs ((Array.range (len * n)).map (z.cells[· % z.cells.size]!)) hxs (by simp) (parts_rep h ps.toList)
          (fun x hx => by rw [(List.mem_replicate.1 hx).2]; exact h2) (by simp) (made_zeros hzc h2)
        have hfl := flat_length xs n hs'
        have hcsz : c'.size = len * n := by have := hr'.length; rw [hfl, hl'] at this; simpa using this
        refine step_new h hd0 hN hnx (ob := .cells c' e) (x := .arr n xs) (d := .own (some w.heap.size) n len) (v := .slice (some ⟨w.heap.size, 0, none⟩) len len) ?_ (repObj_arr h.fr.lt hr' (fun k x hx => by simpa using hx) hs') (Rep.own (heap_alloc w _) (Nat.le_refl _) (by omega) (by omega)) (hk _ (not_sdom_size h.store))
        have hnb : ¬ (16777216 < len * n) := by omega
        have hf' : Instr.fill (fun i => some (i * n, n)) (Array.map (fun x => z.cells[x % z.cells.size]!) (Array.range (len * n))) (List.map (fun p => (p.1, a.eval p.2)) ps.toList) = some c' := hf
        by_cases h0 : len * n = 0
        · have hz0 : Array.map (fun x => z.cells[x % z.cells.size]!) (Array.range 0) = (#[] : Array Value) := by simp
          rw [h0, hz0] at hf'
          simp [execOp, ho, Instr.buildSlice, run_underlying (relem_eq he), run_sizeOf hn, h0, hf', newRow, Array.range_zero']
        · simp [execOp, ho, Instr.buildSlice, run_underlying (relem_eq he), run_sizeOf hn, run_zeroValue hz, h0, hnb, hf', newRow]
      · exact hv.elim
    · exact hv.elim
  · exact hv.elim

theorem s_makeSlice (h : Sim C env σ w S a.tmps) (hd0 : a.defers = C.ds) (hN : dstOk N o.dst) (hnx : ∀ a w, NX C next a w → nx a w) {T : TypeId} {x y : Operand} (ho : o.op = .makeSlice T x y)
    (hv : vcRes P Qp next o.dst env σ (aMakeSlice P T (ev env x) (ev env y))) : o.wp P a w nx Q := by
  unfold aMakeSlice at hv
  split at hv
  · rename_i e l c he hl hc
    split at hv
    · rename_i n z bt hn hz hb
      obtain ⟨⟨h1, h2, h3, h4, h5, h6, h7⟩, hk⟩ := hv
      obtain ⟨kl, hxl⟩ := ixOf_rep hl (ev_rep h x)
      obtain ⟨kc, hyc⟩ := ixOf_rep hc (ev_rep h y)
      have hzr : Rep w S (ofV z) z := rep_ofV h1
      have hzc := rep_cells hzr h3
      have hinf : ∃ i, P.info? e = some i ∧ i.size = n ∧ i.bytes = bt ∧ i.zero = some z := by
        unfold rsize at hn; unfold rzero at hz; unfold rbytes at hb
        cases hi : P.info? e with
        | none => rw [hi] at hn; simp at hn
        | some i => rw [hi] at hn hz hb; simp at hn hz hb; exact ⟨i, rfl, hn, hb, hz⟩
      obtain ⟨i, hi, rfl, rfl, hiz⟩ := hinf
      have hrun := run_make (P := P) w T e i z (relem_eq he) hi hiz kl kc l c h4 h5 (by omega) (by omega)
      have hmz : RepL w S (flat (List.replicate c.toNat (ofV z))) (madeCells z.cells (c.toNat * i.size)).toList := made_zeros hzc h2
      have hs' : ∀ (k : Nat), ∀ x ∈ List.replicate k (ofV z), x.cells.length = i.size := fun k x hx => by rw [(List.mem_replicate.1 hx).2]; exact h2
      refine step_new h hd0 hN hnx (ob := .cells (madeCells z.cells (c.toNat * i.size)) e) (v := .slice (some ⟨w.heap.size, 0, none⟩) l.toNat c.toNat) ?_
        (repObj_arr h.fr.lt (vals := (madeCells z.cells (c.toNat * i.size)).toList.take (l.toNat * i.size)) ?_ (fun k x hx => ?_) (hs' l.toNat)) (Rep.own (heap_alloc w _) (by omega) ?_ (by omega)) (hk _ (not_sdom_size h.store))
      · simp only [execOp, ho, hxl, hyc]; rw [Sem.run_bind, hrun]; rfl
      · have e1 : List.replicate l.toNat (ofV z) = (List.replicate c.toNat (ofV z)).take l.toNat := by rw [List.take_replicate, Nat.min_eq_left (by omega)]
        rw [e1, flat_take _ _ (hs' c.toNat)]
        exact hmz.take _
      · rw [List.getElem?_take] at hx
        split at hx
        · simpa using hx
        · cases hx
      · rw [size_madeCells]; exact Nat.le_refl _
    · exact hv.elim
  · exact hv.elim

theorem s_makeMap (h : Sim C env σ w S a.tmps) (hd0 : a.defers = C.ds) (hN : dstOk N o.dst) (hnx : ∀ a w, NX C next a w → nx a w) {T : TypeId} (ho : o.op = .makeMap T none)
    (hv : vcRes P Qp next o.dst env σ (.new ((rmap P T).isSome = true) (.mp []) (fun b => .map b))) : o.wp P a w nx Q := by
  refine step_new h hd0 hN hnx (ob := .map #[] 0) (x := .mp []) (v := .map (some w.heap.size)) ?_ ⟨#[], 0, heap_alloc w _, .nil, rfl, by simp, by simp⟩ .map (hv.2 _ (not_sdom_size h.store))
  simp [execOp, ho, Instr.makeMap]

theorem s_len (h : Sim C env σ w S a.tmps) (hd0 : a.defers = C.ds) (hN : dstOk N o.dst) (hnx : ∀ a w, NX C next a w → nx a w) {T : TypeId} {ts : Array TypeId} {ty : TypeId} {x : D} {xv : Value} (hx : Rep w S x xv)
    (ho : (execOp a.eval o).run P w = ((Builtin.len_ ts ty #[xv]).run P w).andThen fun v w => .ok (.value v) w) (ht : ts[0]? = some T)
    (hv : vcRes P Qp next o.dst env σ (aLen P σ T x)) : o.wp P a w nx Q := by
  have fin : ∀ {n : Nat}, (Builtin.len_ ts ty #[xv]).run P w = .ok (goInt n) w → next (eputo o.dst (.v (.int .i64 n)) env) σ → o.wp P a w nx Q :=
    fun {n} hrun hk => step_val h hd0 hN hnx (v := goInt n) (by rw [ho, hrun]; rfl) (.v rfl) hk
  have helem : ∀ {T}, (relem P T).isSome = true → ∃ e, P.underlying T = some (.slice e) := fun {T} hh => by
    obtain ⟨e, he⟩ := Option.isSome_iff_exists.1 hh
    exact ⟨e, relem_eq he⟩
  have hmap : ∀ {T}, (rmap P T).isSome = true → ∃ k e, P.underlying T = some (.map k e) := fun {T} hh => by
    unfold rmap at hh
    split at hh
    · exact ⟨_, _, by assumption⟩
    · cases hh
  unfold aLen at hv
  split at hv
  · obtain ⟨e, he⟩ := helem hv.1
    obtain ⟨ad, cap, rfl, _⟩ := slc_inv hx
    exact fin (by simp [Builtin.len_, ht, run_underlying he]) hv.2
  · rename_i b sz n
    obtain ⟨e, he⟩ := helem hv.1
    cases b with
    | none => obtain ⟨ad, rfl, rfl⟩ := own0_inv hx; exact fin (by simp [Builtin.len_, ht, run_underlying he]) hv.2
    | some b => obtain ⟨cap, c, e', fr, rfl, _⟩ := own_inv hx; exact fin (by simp [Builtin.len_, ht, run_underlying he]) hv.2
  · rw [hx.v_inv] at fin
    exact fin (by simp [Builtin.len_, ht, run_underlying (isStr_eq hv.1)]) hv.2
  · obtain ⟨e, he⟩ := helem hv.1
    rw [hx.v_inv] at fin
    exact fin (n := 0) (by simp [Builtin.len_, ht, run_underlying he]) hv.2
  · rename_i b
    split at hv
    · rename_i es hs
      obtain ⟨k, e, he⟩ := hmap hv.1
      obtain ⟨entries, clock, hh, hr, hk, _⟩ := (h.store b _ hs).2
      have hlen : entries.size = es.length := by have := hr.length; simpa using this
      have hget : (getObj b).run P w = .ok (.map entries clock) w := by simp [getObj, Sem.run, hh]
      cases hx
      exact fin (n := es.length) (by simp [Builtin.len_, ht, run_underlying he, hget, hlen]) hv.2
    · exact hv.elim
  · obtain ⟨k, e, he⟩ := hmap hv.1
    rw [hx.v_inv] at fin
    exact fin (n := 0) (by simp [Builtin.len_, ht, run_underlying he]) hv.2
  · exact hv.elim

theorem s_typeAssert (h : Sim C env σ w S a.tmps) (hd0 : a.defers = C.ds) (hN : dstOk N o.dst) (hnx : ∀ a w, NX C next a w → nx a w) {T T' : TypeId} {x : Operand} {ok : Bool} (ho : o.op = .typeAssert x T' T ok)
    (hv : vcRes P Qp next o.dst env σ (aTA P (ev env x) T ok)) : o.wp P a w nx Q := by
  have hx := ev_rep h x
  have fin : ∀ {d v}, (Instr.typeAssert (a.eval x) T' T ok).run P w = .ok v w → Rep w S d v → next (eputo o.dst d env) σ → o.wp P a w nx Q :=
    fun hrun hrep hk => step_val h hd0 hN hnx (v := _) (by simp only [execOp, ho]; rw [Sem.run_bind, hrun]; rfl) hrep hk
  unfold aTA at hv
  split at hv
  · exact hv.elim
  · rename_i d hne hT
    split at hv
    · rename_i t y z hd hz
      rw [hd] at hx
      generalize hxe : a.eval x = xv at hx fin
      cases hx with
      | ifc hy =>
        split at hv
        · rename_i hte
          subst hte
          refine fin (v := .tuple #[_, .bool true]) ?_ (.tup (.cons hy (.cons (.v rfl) .nil))) hv.2
          cases d <;> first | (simp [Instr.typeAssert, run_underlying hT]; done) | exact (hne _ rfl).elim
        · rename_i hte
          refine fin (v := .tuple #[z, .bool false]) ?_ (.tup (.cons (rep_ofV hv.1) (.cons (.v rfl) .nil))) hv.2
          cases d <;> first | (simp [Instr.typeAssert, run_underlying hT, hte, run_zeroValue hz]; done) | exact (hne _ rfl).elim
    · rename_i z hd hz
      rw [hd] at hx
      rw [hx.v_inv] at fin
      refine fin (v := .tuple #[z, .bool false]) ?_ (.tup (.cons (rep_ofV hv.1) (.cons (.v rfl) .nil))) hv.2
      cases d <;> first | (simp [Instr.typeAssert, run_underlying hT, run_zeroValue hz]; done) | exact (hne _ rfl).elim
    · rename_i t y hd
      rw [hd] at hx
      generalize hxe : a.eval x = xv at hx fin
      cases hx with
      | ifc hy =>
        split at hv
        · rename_i hte
          subst hte
          refine fin (v := _) ?_ hy hv.2
          cases d <;> first | (simp [Instr.typeAssert, run_underlying hT]; done) | exact (hne _ rfl).elim
        · exact hv.elim
    · exact hv.elim
  · exact hv.elim

end steps
end Go.Ab
