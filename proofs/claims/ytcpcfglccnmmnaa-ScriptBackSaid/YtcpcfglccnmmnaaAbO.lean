/- The steps of a region, part 12: append, delete, and all of them together: the rule for a region. -/
import Derived.Test.YtcpcfglccnmmnaaAbN
set_option linter.unusedSimpArgs false
set_option linter.unusedVariables false
set_option linter.constructorNameAsVariable false
namespace Go.Ab
open Go

section steps
variable {P : Program} {N : Slots} {C : Ctx P N} {env : Env} {σ : Store} {a : Act} {w : World} {S : Nat → Prop} {o : Oper}
variable {Qp : D → Store → Prop} {next : Env → Store → Prop} {nx : Act → World → Prop} {Q : Exit → Act → World → Prop}

theorem flat_one {ys : List D} {vals : List Value} (hr : RepL w S (flat ys) vals) (hn : ∀ y ∈ ys, y.plain = true) : ∀ v ∈ vals, v.oneCell' = true := by
  refine hr.one_cell fun d hd => ?_
  obtain ⟨y, hy, hdy⟩ := List.mem_flatMap.1 hd
  have := hn y hy
  unfold D.plain at this
  simp only [Bool.and_eq_true, List.all_eq_true] at this
  exact this.2 d hdy

theorem ofV_size (z : Value) : (ofV z).cells.length = z.cells.size := by cases z <;> simp [ofV, D.cells, Value.cells]

theorem ev_drew (w : World) (S : Nat → Prop) : Ev w S w.drew S := ⟨fun _ h => h, fun _ _ => rfl, Shape.refl w⟩

/-- The old block, if there is one, is forgotten. -/
theorem sle_sdelo (b : Option Nat) (σ : Store) : SLe (sdelo b σ) σ := by
  intro k o hk
  cases b with
  | none => exact hk
  | some b =>
    simp only [sdelo] at hk
    rw [sget_sdel] at hk
    split at hk
    · cases hk
    · exact hk

theorem s_append (h : Sim C env σ w S a.tmps) (hd0 : a.defers = C.ds) (hN : dstOk N o.dst) (hnx : ∀ a w, NX C next a w → nx a w) {T T2 ty : TypeId} {ts : Array TypeId} {s x : D} {sv xv : Value} (hs : Rep w S s sv) (hx : Rep w S x xv)
    (ho : (execOp a.eval o).run P w = ((Builtin.append_ ts ty #[sv, xv]).run P w).andThen fun v w => .ok (.value v) w) (ht0 : ts[0]? = some T) (ht1 : ts[1]? = some T2)
    (hv : vcRes P Qp next o.dst env σ (aAppend P σ T T2 s x)) : o.wp P a w nx Q := by
  unfold aAppend at hv
  split at hv
  · rename_i e ys he hys
    have hT := relem_eq he
    split at hv
    · rename_i n bt z hn hb hz
      have hinf : ∃ i, P.info? e = some i ∧ i.size = n ∧ i.bytes = bt ∧ i.zero = some z := by
        unfold rsize at hn; unfold rzero at hz; unfold rbytes at hb
        cases hi : P.info? e with
        | none => rw [hi] at hn; simp at hn
        | some i => rw [hi] at hn hz hb; simp at hn hz hb; exact ⟨i, rfl, hn, hb, hz⟩
      obtain ⟨i, hi, rfl, rfl, hiz⟩ := hinf
      -- growing: from olds, the elements so far
      have grow : ∀ {b : Option Nat} {old : List D} {olds : List Value} {ad : Option Addr} {cap : Nat}, sv = .slice ad old.length cap → RepL w S (flat old) olds → (∀ y ∈ old, y.cells.length = i.size) →
          (∀ w', w'.heap = w.heap → (Builtin.firstCells i.size old.length (.slice ad old.length cap)).run P w' = .ok olds.toArray w') → cap < old.length + ys.length →
          vcRes P Qp next o.dst env σ (.app ((P.underlying T2 = P.underlying T ∨ isStr P T2 = true) ∧ okV z = true ∧ (ofV z).cells.length = i.size ∧ (∀ y ∈ ys, y.cells.length = i.size ∧ y.plain = true) ∧ (old.length + ys.length) * i.bytes ≤ 2 ^ 46 ∧ old.length + ys.length < 2 ^ 46) b i.size (old ++ ys)) → o.wp P a w nx Q := by
        intro b old olds ad cap hsv hro hso hfc hcap hv
        obtain ⟨⟨h1, h2, h3, h4, h5, h6⟩, hk⟩ := hv
        obtain ⟨news, hsrc, hrn⟩ := src_ok h.store hx hys h4
        have hrun := app_grow (ty := ty) ht0 ht1 hT h1 hi hiz hsrc hfc hcap h5 h6
        generalize hg : grownCap w (old.length + ys.length) cap e = nc at hrun
        have hge : old.length + ys.length ≤ nc := by rw [← hg]; exact grownCap_ge w _ cap e
        have hgm : nc ≤ 9223372036854775807 := by rw [← hg]; exact grownCap_le_maxLen w _ cap e (by unfold maxLen; omega)
        have holdl : olds.length = old.length * i.size := by rw [hro.length, flat_length old i.size hso]
        have hsle := sle_sdelo b σ
        have hsim' : Sim C env (sdelo b σ) w S a.tmps := ⟨h.env, h.store.le hsle, h.fr.le hsle, h.size⟩
        have hfresh := not_sdom_size hsim'.store
        have hnx' := hk (some w.heap.size) (fun hh => nomatch hh) (fun c hc => by cases hc; exact hfresh)
        simp only [cellsOf, List.cons_append, List.nil_append] at hnx'
        have hzs : z.cells.size = i.size := by rw [← ofV_size]; exact h3
        refine step_drew_new hsim' hd0 hN hnx (v := .slice (some ⟨w.heap.size, 0, none⟩) (old.length + ys.length) nc) (by rw [ho, hsv, hrun]; rfl) (x := .arr i.size (old ++ ys)) ?_ ?_ hnx'
        · refine ⟨_, e, 0, 0, olds ++ news, heap_alloc w.drew _, ?_, ?_, ?_, .inl (Nat.le_refl _)⟩
          · rw [flat_append]
            have hE : Ev w S (w.drew.alloc (.cells (olds.toArray ++ news.toArray ++ Builtin.zeroCells z.cells (nc - (old.length + ys.length))) e)) S := (ev_drew w S).trans (ev_alloc (w := w.drew) h.fr.lt _)
            exact (hro.append hrn).ev hE
          · intro k v hkv
            rw [Array.getElem?_append_left (by
              have := (List.getElem?_eq_some_iff.1 hkv).1
              simpa using this)]
            simpa using hkv
          · intro y hy
            rcases List.mem_append.1 hy with hy | hy
            · exact hso y hy
            · exact (h4 y hy).1
        · have : (old ++ ys).length = old.length + ys.length := by simp
          rw [this]
          refine Rep.own (heap_alloc w.drew _) hge ?_ hgm
          simp only [Array.size_append, List.size_toArray, size_zeroCells, hzs, holdl, hsrc.size]
          obtain ⟨d, rfl⟩ : ∃ d, nc = old.length + ys.length + d := ⟨nc - (old.length + ys.length), by omega⟩
          rw [Nat.add_sub_cancel_left, Nat.add_mul, Nat.add_mul]
          exact Nat.le_refl _
      -- from a slice without room
      have fromNone : ∀ {ad : Option Addr}, sv = .slice ad 0 0 → vcRes P Qp next o.dst env σ (.app ((P.underlying T2 = P.underlying T ∨ isStr P T2 = true) ∧ okV z = true ∧ (ofV z).cells.length = i.size ∧ (∀ y ∈ ys, y.cells.length = i.size ∧ y.plain = true) ∧ (([] : List D).length + ys.length) * i.bytes ≤ 2 ^ 46 ∧ ([] : List D).length + ys.length < 2 ^ 46) none i.size ys) → o.wp P a w nx Q := by
        intro ad hsv hv
        by_cases hy : ys = []
        · subst hy
          obtain ⟨⟨h1, h2, h3, h4, h5, h6⟩, hk⟩ := hv
          obtain ⟨news, hsrc, hrn⟩ := src_ok h.store hx hys h4
          have hnx' := hk none (fun _ => rfl) (fun c hc => nomatch hc)
          refine step_val h hd0 hN hnx (v := .slice ad 0 0) ?_ .own0 hnx'
          have hzz : ∃ d, P.underlying T2 = some d ∧ ∀ k, d ≠ .int k := by
            rcases h1 with h | h
            · exact ⟨_, h.trans hT, fun k hk => nomatch hk⟩
            · exact ⟨_, isStr_eq h, fun k hk => nomatch hk⟩
          obtain ⟨d, hd, hdn⟩ := hzz
          have hnews : news = [] := List.eq_nil_of_length_eq_zero (by rw [hsrc.size]; simp)
          subst hnews
          have hc := hsrc.cells w rfl
          have hl : (Builtin.lenOf xv).run P w = .ok 0 w := hsrc.len w
          have hc' : (Builtin.firstCells i.size 0 xv).run P w = .ok #[] w := hc
          rw [ho, hsv]
          have : (Builtin.append_ ts ty #[.slice ad 0 0, xv]).run P w = .ok (.slice ad 0 0) w := by
            unfold Builtin.append_
            cases ad <;> simp [ht0, ht1, run_underlying hT, run_underlying hd, sizeOf, typeInfo, hi, hl, hc', storeCells]
          rw [this]; rfl
        · have hp : 0 < ys.length := List.length_pos_iff.2 hy
          refine grow (b := none) (old := []) (olds := []) (ad := ad) (cap := 0) hsv .nil (by simp) (fun w' _ => ?_) (by simpa using hp) hv
          cases ad with
          | none => exact run_firstCells_none w' _ 0 0 0
          | some ad => exact run_firstCells_some (P := P) w' _ 0 ad 0 0 [] (by simp) (fun j v hj => by simp at hj)
      dsimp only at hv
      split at hv
      · exact fromNone hs.v_inv hv
      · rename_i ob sz k
        split at hv
        · rename_i xs hgo
          cases ob with
          | none =>
            simp only [oget, Option.some.injEq] at hgo
            subst hgo
            obtain ⟨ad, hsv, rfl⟩ := own0_inv hs
            exact fromNone hsv ⟨hv.1.2.2, hv.2⟩
          | some b =>
          simp only [oget] at hgo
          split at hgo
          case h_2 => cases hgo
          rename_i sz' zs hgs
          split at hgo
          case isFalse => cases hgo
          rename_i hs1
          cases hgo
          subst hs1
          have hv' := hv
          obtain ⟨⟨rfl, hk, hpre⟩, hkk⟩ := hv
          obtain ⟨cap, c, e', fr, hsv, hcap, hh, hcs, hcm⟩ := own_cap hs
          obtain ⟨hSb, hobj⟩ := h.store b _ hgs
          obtain ⟨c', e'', lo, hi', vals, hh', hr, hc, hs', hfz⟩ := hobj
          rw [hh] at hh'; cases hh'
          have hlen : (xs.take k).length = k := by simp; omega
          have hvl : vals.length = xs.length * i.size := by rw [hr.length, flat_length xs _ hs']
          have hro : RepL w S (flat (xs.take k)) (vals.take (k * i.size)) := by rw [flat_take xs k hs']; exact hr.take _
          have hso : ∀ y ∈ xs.take k, y.cells.length = i.size := fun y hy => hs' y (List.mem_of_mem_take hy)
          by_cases hroom : k + ys.length ≤ cap
          · obtain ⟨h1, h2, h3, h4, h5, h6⟩ := hpre
            obtain ⟨news, hsrc, hrn⟩ := src_ok h.store hx hys h4
            have hone := flat_one hrn (fun y hy => (h4 y hy).2)
            have hrun := app_room (ty := ty) (fr := (lo, hi')) ht0 ht1 hT h1 hi hsrc hh hcs hfz hone hroom
            have hfit : k * i.size + news.length ≤ c.size := by rw [hsrc.size, ← Nat.add_mul]; exact Nat.le_trans (Nat.mul_le_mul_right _ hroom) hcs
            obtain ⟨c', hc'1, hc'2, hc'3⟩ := setCells_heap b e' (lo, hi') news (k * i.size) w c hh hfit
            have hother := fun j hj => setCells_other b news (k * i.size) w j hj
            obtain ⟨f1, f2, f3, f4⟩ := setCells_fields b news (k * i.size) w
            have hsh := shape_row hother hh hc'1 hc'2
            have hfr0 := fr_row (y := .arr i.size (xs.take k ++ ys)) h.fr.lt hgs f1 f2 f3 f4 hother hsh
            have hE := sim_ev h hfr0
            have hnew : RepObj (w.setCells b (k * i.size) news) S b (.arr i.size (xs.take k ++ ys)) := by
              refine ⟨c', e', lo, hi', vals.take (k * i.size) ++ news, hc'1, ?_, ?_, ?_, by rw [hc'2]; exact hfz⟩
              · rw [flat_append]; exact (hro.append hrn).ev hE
              · intro j v hj
                have hvk : (vals.take (k * i.size)).length = k * i.size := by
                  rw [List.length_take, hvl, Nat.min_eq_left (Nat.mul_le_mul_right _ hk)]
                rw [hc'3]
                by_cases hin : k * i.size ≤ j ∧ j < k * i.size + news.length
                · rw [if_pos hin]
                  rw [List.getElem?_append_right (by omega), hvk] at hj
                  exact hj
                · rw [if_neg hin]
                  have hjl := (List.getElem?_eq_some_iff.1 hj).1
                  rw [List.length_append, hvk] at hjl
                  rw [List.getElem?_append_left (by omega), List.getElem?_take] at hj
                  split at hj
                  · exact hc j v hj
                  · cases hj
              · intro y hy
                rcases List.mem_append.1 hy with hy | hy
                · exact hso y hy
                · exact (h4 y hy).1
            have hst := store_row h.store hE hother hSb hnew
            have hfresh : sget b (sdel b σ) = none := by rw [sget_sdel, if_pos rfl]
            have hnx' := hkk (some b) (fun hh => nomatch hh) (fun c hc => by cases hc; exact hfresh)
            simp only [cellsOf, List.cons_append, List.nil_append, sdelo] at hnx'
            have hsl : ∀ j o', sget j ((b, AObj.arr i.size (xs.take k ++ ys)) :: sdel b σ) = some o' → sget j (sset b (.arr i.size (xs.take k ++ ys)) σ) = some o' := by
              intro j o' hj
              rw [sget_cons] at hj
              rw [sget_sset]
              by_cases hjb : j = b
              · subst hjb; rw [if_pos rfl] at hj ⊢; rw [hgs]; exact hj
              · rw [if_neg hjb] at hj ⊢; rw [sget_sdel, if_neg hjb] at hj; exact hj
            refine step_ok h hd0 hN hnx (v := .slice (some ⟨b, 0, none⟩) (k + ys.length) cap) (w' := w.setCells b (k * i.size) news) (by rw [ho, hsv, hrun]; rfl) ?_ (hst.le hsl) (hfr0.le hsl) hnx'
            have : (xs.take k ++ ys).length = k + ys.length := by simp; omega
            rw [this]
            exact Rep.own hc'1 hroom (by rw [hc'2]; exact hcs) hcm
          · refine grow (b := some b) (old := xs.take k) (olds := vals.take (k * i.size)) (ad := some ⟨b, 0, none⟩) (cap := cap) (by rw [hlen]; exact hsv) hro hso (fun w' hw => ?_) (by rw [hlen]; omega) ⟨hpre, hkk⟩
            rw [hlen]
            refine run_firstCells_some (P := P) w' i.size k ⟨b, 0, none⟩ k cap _ (by rw [List.length_take, hvl, Nat.min_eq_left (Nat.mul_le_mul_right _ hk)]) (fun j v hj => ?_)
            rw [add_block, Nat.zero_add, cell_heap hw, cells_of_row hh]
            rw [List.getElem?_take] at hj
            split at hj
            · exact hc j v hj
            · cases hj
        · exact hv.elim
      · exact hv.elim
    · exact hv.elim
  · exact hv.elim

end steps
end Go.Ab
