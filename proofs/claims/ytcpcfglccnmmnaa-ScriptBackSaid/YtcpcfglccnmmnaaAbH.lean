/- The steps of a region, part 5: comparisons, conversions, indexes, slices. -/
import Derived.Test.YtcpcfglccnmmnaaAbG
import Derived.Laws.IdiomStrings
set_option linter.unusedSimpArgs false
set_option linter.unusedVariables false
set_option linter.constructorNameAsVariable false
namespace Go.Ab
open Go

section
variable {P : Program} {w : World} {S : Nat → Prop}

theorem own_cap {b sz n : Nat} {v : Value} (h : Rep w S (.own (some b) sz n) v) : ∃ cap c e fr, v = .slice (some ⟨b, 0, none⟩) n cap ∧ n ≤ cap ∧ w.heap[b]? = some (.cells c e fr) ∧ cap * sz ≤ c.size ∧ cap ≤ 9223372036854775807 := by
  cases h with
  | own hh hn hc hm => exact ⟨_, _, _, _, rfl, hn, hh, hc, hm⟩

theorem own_inv {b sz n : Nat} {v : Value} (h : Rep w S (.own (some b) sz n) v) : ∃ cap c e fr, v = .slice (some ⟨b, 0, none⟩) n cap ∧ n ≤ cap ∧ w.heap[b]? = some (.cells c e fr) ∧ cap * sz ≤ c.size := by
  cases h with
  | own hh hn hc hm => exact ⟨_, _, _, _, rfl, hn, hh, hc⟩

theorem own0_inv {sz n : Nat} {v : Value} (h : Rep w S (.own none sz n) v) : ∃ ad, v = .slice ad 0 0 ∧ n = 0 := by
  cases h with
  | own0 => exact ⟨_, rfl, rfl⟩

/-- A slice that is only read: its head and its elements' cells. -/
theorem slc_inv {xs : List D} {v : Value} (h : Rep w S (.slc xs) v) : ∃ ad cap, v = .slice ad xs.length cap ∧ xs.length ≤ cap ∧ (xs = [] ∨ ∃ b off sz vals, ad = some ⟨b, off, none⟩ ∧ S b ∧ RepL w S (flat xs) vals ∧ CellsAt w b off vals ∧ ∀ x ∈ xs, x.cells.length = sz) := by
  cases h with
  | slc0 => exact ⟨_, _, rfl, by simp, .inl rfl⟩
  | slc hb hr hc hs hcap => exact ⟨_, _, rfl, hcap, .inr ⟨_, _, _, _, rfl, hb, hr, hc, hs⟩⟩

theorem isStr_eq {T : TypeId} (h : isStr P T = true) : P.underlying T = some .string := by
  unfold isStr at h; split at h
  · assumption
  · cases h

theorem isByteSlice_eq {T : TypeId} (h : isByteSlice P T = true) : ∃ e, P.underlying T = some (.slice e) ∧ P.underlying e = some (.int .u8) := by
  unfold isByteSlice at h; split at h
  · rename_i e he
    split at h
    · rename_i hb; exact ⟨e, relem_eq he, hb⟩
    · cases h
  · cases h

end

section steps
variable {P : Program} {N : Slots} {C : Ctx P N} {env : Env} {σ : Store} {a : Act} {w : World} {S : Nat → Prop} {o : Oper}
variable {Qp : D → Store → Prop} {next : Env → Store → Prop} {nx : Act → World → Prop} {Q : Exit → Act → World → Prop}

theorem unlike_ok {T : TypeId} {x y : Value} (hq : (Op.equal T x y).run P w = .ok false w) (hg : ∀ op xo yo, (eqGuard op T xo yo x y).run P w = .ok () w)
    (h1 : binOp .eql T x y = (do pure (.bool (← Op.equal T x y)))) (h2 : binOp .neq T x y = (do pure (.bool (!(← Op.equal T x y))))) :
    ∀ op, (op = .eql ∨ op = .neq) → ∀ xo yo, (do eqGuard op T xo yo x y; binOp op T x y : Sem Value).run P w = .ok (.bool (match op with | .neq => true | _ => false)) w := by
  intro op hop xo yo
  rw [Sem.run_bind, hg]
  rcases hop with rfl | rfl
  · show (binOp .eql T x y).run P w = _
    rw [h1, Sem.run_bind, hq]; rfl
  · show (binOp .neq T x y).run P w = _
    rw [h2, Sem.run_bind, hq]; rfl

/-- Nil against what is not nil: unlike. -/
theorem aEq_ok {T : TypeId} {d e : D} {t : Bool} {x y : Value} (h : aEq (P.underlying T) d e = some t) (hx : Rep w S d x) (hy : Rep w S e y) :
    t = false ∧ ∀ op, (op = .eql ∨ op = .neq) → ∀ xo yo, (do eqGuard op T xo yo x y; binOp op T x y : Sem Value).run P w = .ok (.bool (match op with | .neq => true | _ => false)) w := by
  unfold aEq at h
  split at h
  · rename_i hT
    cases h; cases hx; cases hy
    refine ⟨rfl, unlike_ok ?_ (fun op xo yo => by unfold eqGuard; cases op <;> rfl) rfl rfl⟩
    show (Op.equalIn (9999 + 1) _ _ _).run P w = _
    rw [Op.equalIn]; simp [run_underlying hT]
  · rename_i hT
    cases h; cases hx; cases hy
    refine ⟨rfl, unlike_ok ?_ (fun op xo yo => by unfold eqGuard; cases op <;> rfl) rfl rfl⟩
    show (Op.equalIn (9999 + 1) _ _ _).run P w = _
    rw [Op.equalIn]; simp [run_underlying hT]
  · rename_i hT
    cases h; cases hx; cases hy
    refine ⟨rfl, unlike_ok ?_ (fun op xo yo => by unfold eqGuard; cases op <;> rfl) rfl rfl⟩
    show (Op.equalIn (9999 + 1) _ _ _).run P w = _
    rw [Op.equalIn]; simp [run_underlying hT]
  · rename_i hT
    cases h; cases hx; cases hy
    refine ⟨rfl, unlike_ok ?_ (fun op xo yo => by unfold eqGuard; cases op <;> rfl) rfl rfl⟩
    show (Op.equalIn (9999 + 1) _ _ _).run P w = _
    rw [Op.equalIn]; simp [run_underlying hT]
  · rename_i hT
    cases h; cases hx; cases hy
    refine ⟨rfl, unlike_ok ?_ (fun op xo yo => by unfold eqGuard; cases op <;> rfl) rfl rfl⟩
    show (Op.equalIn (9999 + 1) _ _ _).run P w = _
    rw [Op.equalIn]; simp [run_underlying hT]
  · rename_i hT
    cases h; cases hx; cases hy
    refine ⟨rfl, unlike_ok ?_ (fun op xo yo => by unfold eqGuard; cases op <;> rfl) rfl rfl⟩
    show (Op.equalIn (9999 + 1) _ _ _).run P w = _
    rw [Op.equalIn]; simp [run_underlying hT]
  · rename_i hT
    cases h; cases hx; cases hy
    refine ⟨rfl, unlike_ok ?_ (fun op xo yo => by unfold eqGuard; cases op <;> rfl) rfl rfl⟩
    show (Op.equalIn (9999 + 1) _ _ _).run P w = _
    rw [Op.equalIn]; simp [run_underlying hT]
  · rename_i hT
    cases h; cases hx; cases hy
    refine ⟨rfl, unlike_ok ?_ (fun op xo yo => by unfold eqGuard; cases op <;> rfl) rfl rfl⟩
    show (Op.equalIn (9999 + 1) _ _ _).run P w = _
    rw [Op.equalIn]; simp [run_underlying hT]
  · cases h

theorem aNil_ok {T : TypeId} {d e : D} {ok : Bool → Prop} {x y : Value} (h : aNil (P.underlying T) d e = some ok) (hx : Rep w S d x) (hy : Rep w S e y) :
    ∃ t, ok t ∧ ∀ op, (op = .eql ∨ op = .neq) → ∀ xo yo, (do eqGuard op T xo yo x y; binOp op T x y : Sem Value).run P w = .ok (.bool (match op with | .neq => !t | _ => t)) w := by
  have main : ∀ {t : Bool}, (Op.equal T x y).run P w = .ok t w → (∀ op xo yo, (eqGuard op T xo yo x y).run P w = .ok () w) →
    binOp .eql T x y = (do pure (.bool (← Op.equal T x y))) → binOp .neq T x y = (do pure (.bool (!(← Op.equal T x y)))) →
    ∀ op, (op = .eql ∨ op = .neq) → ∀ xo yo, (do eqGuard op T xo yo x y; binOp op T x y : Sem Value).run P w = .ok (.bool (match op with | .neq => !t | _ => t)) w := by
    intro t hq hg h1 h2 op hop xo yo
    rw [Sem.run_bind, hg]
    rcases hop with rfl | rfl
    · show (binOp .eql T x y).run P w = _
      rw [h1, Sem.run_bind, hq]; rfl
    · show (binOp .neq T x y).run P w = _
      rw [h2, Sem.run_bind, hq]; rfl
  have key : ∀ (elem : TypeId) (ad : Option Addr) (n cap : Nat), P.underlying T = some (.slice elem) → x = .slice ad n cap → y = .slice none 0 0 → ∀ ok : Bool → Prop, ok ad.isNone →
    ∃ t, ok t ∧ ∀ op, (op = .eql ∨ op = .neq) → ∀ xo yo, (do eqGuard op T xo yo x y; binOp op T x y : Sem Value).run P w = .ok (.bool (match op with | .neq => !t | _ => t)) w := by
    intro elem ad n cap hT hx hy ok hok
    subst hx; subst hy
    refine ⟨ad.isNone, hok, main ?_ (fun op xo yo => by unfold eqGuard; cases op <;> rfl) rfl rfl⟩
    show (Op.equalIn (9999 + 1) _ _ _).run P w = _
    rw [Op.equalIn]
    cases ad <;> simp [run_underlying hT]
  unfold aNil at h
  split at h
  · rename_i hT
    cases h
    obtain ⟨ad, cap, hxe, _, hn⟩ := slc_inv hx
    refine key _ ad _ cap hT hxe hy.v_inv _ fun hne => ?_
    rcases hn with hn | ⟨b, off, sz, vals, rfl, _⟩
    · exact absurd hn hne
    · rfl
  · rename_i hT
    cases h
    obtain ⟨ad, hxe, _⟩ := own0_inv hx
    exact key _ ad _ _ hT hxe hy.v_inv _ trivial
  · cases h

theorem ifcNil_eq {d : Option TypeDesc} {x y : D} (h : ifcNil d x y = true) : aEq d x y = some false := by
  unfold ifcNil at h
  split at h
  · unfold isIfc at h
    split at h
    · rfl
    · cases h
  · cases h

theorem s_binOp (h : Sim C env σ w S a.tmps) (hd0 : a.defers = C.ds) (hN : dstOk N o.dst) (hnx : ∀ a w, NX C next a w → nx a w) {op : BinOp} {T T2 : TypeId} {x y : Operand} (ho : o.op = .binOp op T x y T2)
    (hv : vcRes P Qp next o.dst env σ (aBin P op T x y (ev env x) (ev env y))) : o.wp P a w nx Q := by
  have hx := ev_rep h x
  have hy := ev_rep h y
  unfold aBin at hv
  split at hv
  · rename_i hn
    have ht := ifcNil_eq hn
    obtain ⟨_, hrun⟩ := aEq_ok ht hx hy
    refine step_val h hd0 hN hnx (v := .bool false) ?_ (.v rfl) hv.2
    have := hrun .eql (.inl rfl) x y
    simp only [execOp, ho]; rw [Sem.run_bind, this]; rfl
  · rename_i hn
    have ht := ifcNil_eq hn
    obtain ⟨_, hrun⟩ := aEq_ok ht hx hy
    refine step_val h hd0 hN hnx (v := .bool true) ?_ (.v rfl) hv.2
    have := hrun .neq (.inr rfl) x y
    simp only [execOp, ho]; rw [Sem.run_bind, this]; rfl
  rename_i n1 n2
  clear n1 n2
  unfold aBin0 at hv
  split at hv
  · rename_i u v hu hv'
    obtain ⟨d, z, hrun, hrep, hk⟩ := scal_ok hv w S
    have e1 := toV_rep hu hx
    have e2 := toV_rep hv' hy
    exact step_val h hd0 hN hnx (v := z) (by simp only [execOp, ho, e1, e2]; rw [Sem.run_bind, hrun]; rfl) hrep hk
  · split at hv
    · rename_i t ht
      obtain ⟨rfl, hrun⟩ := aEq_ok ht hx hy
      refine step_val h hd0 hN hnx (v := .bool false) ?_ (.v rfl) hv.2
      have := hrun .eql (.inl rfl) x y
      simp only [execOp, ho]; rw [Sem.run_bind, this]; rfl
    · rename_i t ht
      obtain ⟨rfl, hrun⟩ := aEq_ok ht hx hy
      refine step_val h hd0 hN hnx (v := .bool true) ?_ (.v rfl) hv.2
      have := hrun .neq (.inr rfl) x y
      simp only [execOp, ho]; rw [Sem.run_bind, this]; rfl
    · split at hv
      · obtain ⟨t, ht, hrun⟩ := aNil_ok (by assumption) hx hy
        refine step_val h hd0 hN hnx (v := .bool t) ?_ (.v rfl) (hv t ht)
        have := hrun .eql (.inl rfl) x y
        simp only [execOp, ho]; rw [Sem.run_bind, this]; rfl
      · obtain ⟨t, ht, hrun⟩ := aNil_ok (by assumption) hx hy
        refine step_val h hd0 hN hnx (v := .bool (!t)) ?_ (.v rfl) (hv t ht)
        have := hrun .neq (.inr rfl) x y
        simp only [execOp, ho]; rw [Sem.run_bind, this]; rfl
      · exact hv.elim

theorem s_indexAddr (h : Sim C env σ w S a.tmps) (hd0 : a.defers = C.ds) (hN : dstOk N o.dst) (hnx : ∀ a w, NX C next a w → nx a w) {T : TypeId} {x y : Operand} (ho : o.op = .indexAddr T x y)
    (hv : vcRes P Qp next o.dst env σ (aIndexAddr P T (ev env x) (ev env y))) : o.wp P a w nx Q := by
  have hx := ev_rep h x
  have hy := ev_rep h y
  unfold aIndexAddr at hv
  split at hv
  · rename_i e i he hi
    have hT := relem_eq he
    have hyv : ∃ k, a.eval y = .int k i := by
      unfold ixOf at hi
      split at hi
      · rename_i k n hyd; cases hi; rw [hyd] at hy; exact ⟨k, hy.v_inv⟩
      · cases hi
    obtain ⟨k, hyv⟩ := hyv
    split at hv
    · rename_i n xs hn hd
      rw [hd] at hx
      obtain ⟨⟨h0, h1, h2⟩, hk⟩ := hv
      obtain ⟨ad, cap, hev, hcap, hnil | ⟨b, off, sz, vals, rfl, hb, hr, hc, hs⟩⟩ := slc_inv hx
      · subst hnil; simp at h1; omega
      · have hil : i.toNat < xs.length := by omega
        have hsz : n = sz := by rw [← h2, getD_lt _ _ _ hil]; exact hs _ (List.getElem_mem hil)
        subst hsz
        refine step_val h hd0 hN hnx (v := .pointer (some ⟨b, off + i.toNat * n, none⟩)) ?_ (.elt hb (vals := (vals.drop (i.toNat * n)).take n) ?_ ?_) hk
        · have hadd : (⟨b, off, none⟩ : Addr).add (i.toNat * n) = ⟨b, off + i.toNat * n, none⟩ := by
            unfold Addr.add; split <;> simp_all
          simp only [execOp, ho, hev, hyv]
          simp [Instr.indexAt, asIntOf, run_underlying hT, run_sizeOf hn, h0, h1, hadd]
        · have hseg : ((flat xs).drop (i.toNat * n)).take n = (xs.getD i.toNat .any).cells := by
            apply List.ext_getElem?
            intro j
            rw [List.getElem?_take]
            by_cases hj : j < n
            · rw [if_pos hj, List.getElem?_drop, flat_getD xs n hs i.toNat hil j hj]
            · rw [if_neg hj, List.getElem?_eq_none (by omega)]
          rw [← hseg]
          exact (hr.drop _).take _
        · intro j v hj
          rw [List.getElem?_take] at hj
          split at hj
          · rw [List.getElem?_drop] at hj
            rw [show off + i.toNat * n + j = off + (i.toNat * n + j) by omega]
            exact hc _ v hj
          · cases hj
    · rename_i n b sz len hn hd
      rw [hd] at hx
      obtain ⟨⟨h0, h1, h2⟩, hk⟩ := hv
      subst h2
      obtain ⟨cap, c, e', fr, hev, hcap, hh, hcs⟩ := own_inv hx
      refine step_val h hd0 hN hnx (v := .pointer (some ⟨b, i.toNat * sz + 0, none⟩)) ?_ .ptr hk
      have hadd : (⟨b, 0, none⟩ : Addr).add (i.toNat * sz) = ⟨b, i.toNat * sz, none⟩ := by
        unfold Addr.add; split <;> simp_all
      simp only [execOp, ho, hev, hyv]
      simp [Instr.indexAt, asIntOf, run_underlying hT, run_sizeOf hn, h0, h1, hadd]
    · exact hv.elim
  · exact hv.elim

theorem ixOf_rep {d : D} {i : Int} {v : Value} (hi : ixOf d = some i) (hr : Rep w S d v) : ∃ k, v = .int k i := by
  unfold ixOf at hi
  split at hi
  · rename_i k n; cases hi; exact ⟨k, hr.v_inv⟩
  · cases hi

theorem s_index (h : Sim C env σ w S a.tmps) (hd0 : a.defers = C.ds) (hN : dstOk N o.dst) (hnx : ∀ a w, NX C next a w → nx a w) {T : TypeId} {x y : Operand} (ho : o.op = .index T x y)
    (hv : vcRes P Qp next o.dst env σ (aIndex P T (ev env x) (ev env y))) : o.wp P a w nx Q := by
  have hx := ev_rep h x
  have hy := ev_rep h y
  unfold aIndex at hv
  split at hv
  · rename_i s i hd hi
    rw [hd] at hx
    obtain ⟨k, hyv⟩ := ixOf_rep hi hy
    obtain ⟨⟨ht, h0, h1⟩, hk⟩ := hv
    have hlt : i.toNat < s.size := by omega
    refine step_val h hd0 hN hnx (v := .int .u8 ((s.data.toList.getD i.toNat 0).toNat : Int)) ?_ (.v rfl) hk
    have hsg : s[i.toNat]? = some (s.data.toList.getD i.toNat 0) := by
      have h2 : i.toNat < s.data.size := hlt
      rw [getD_lt _ _ _ (by simpa using h2)]
      simp [getElem?_pos, hlt]
      rfl
    simp only [execOp, ho, hx.v_inv, hyv]
    simp [Instr.index, asIntOf, run_underlying (isStr_eq ht), h0, hsg]
  · exact hv.elim

end steps
end Go.Ab
