/- The steps of a region, part 6: bytes and strings, cuts, makes, structs. -/
import Derived.Test.YtcpcfglccnmmnaaAbH
import Derived.Laws.MakeOwn
import Derived.Laws.RangeAny
set_option linter.unusedSimpArgs false
set_option linter.unusedVariables false
set_option linter.constructorNameAsVariable false
namespace Go.Ab
open Go

section
variable {P : Program} {w : World} {S : Nat → Prop}

theorem isByte_rep {d : D} {v : Value} (h : isByte d = true) (hr : Rep w S d v) : v = .int .u8 ((byteOf d).toNat : Int) := by
  unfold isByte at h
  split at h
  · rename_i n
    rw [hr.v_inv]
    simp only [decide_eq_true_eq] at h
    simp only [byteOf]
    congr 1
    have : n.toNat < 256 := by omega
    rw [UInt8.toNat_ofNat_of_lt' (by simpa using this)]
    omega
  · cases h

theorem isByte_cells {d : D} (h : isByte d = true) : d.cells = [d] := by
  unfold isByte at h
  split at h
  · rfl
  · cases h

theorem flat_bytes : ∀ (xs : List D), xs.all isByte = true → flat xs = xs
  | [], _ => rfl
  | x :: xs, h => by
    simp only [List.all_cons, Bool.and_eq_true] at h
    rw [flat_cons, isByte_cells h.1, flat_bytes xs h.2]; rfl

theorem bytes_get {xs : List D} {vals : List Value} (h : xs.all isByte = true) (hr : RepL w S xs vals) (j : Nat) (hj : j < (xs.map byteOf).length) : vals[j]? = some (.int .u8 (((xs.map byteOf)[j]).toNat : Int)) := by
  have hj' : j < xs.length := by simpa using hj
  obtain ⟨v, hv, hrep⟩ := hr.get j xs[j] (by simp)
  rw [hv]
  have hb : isByte xs[j] = true := (List.all_eq_true.1 h) _ (List.getElem_mem hj')
  rw [isByte_rep hb hrep]
  simp

theorem run_bytes_back {src dst : TypeId} {ad : Option Addr} {xs : List D} {cap : Nat} (hs : isByteSlice P src = true) (hd : isStr P dst = true)
    (hc : ∀ (j : Nat) (hj : j < (xs.map byteOf).length), ∃ a, ad = some a ∧ w.cell? (a.add j) = some (.int .u8 (((xs.map byteOf)[j]).toNat : Int))) :
    (convert src dst (.slice ad xs.length cap)).run P w = .ok (.string (bytesOf xs)) w := by
  obtain ⟨e, he1, he2⟩ := isByteSlice_eq hs
  have hdst := isStr_eq hd
  cases xs with
  | nil =>
    cases ad with
    | none => simp [convert, run_underlying he1, run_underlying hdst, run_underlying he2, Conv.bytesToString, bytesOf]; rfl
    | some a =>
      have := run_convert_bytes_back (P := P) w src dst e a cap [] he1 he2 hdst (fun j hj => by simp at hj)
      simpa [bytesOf] using this
  | cons x xs =>
    obtain ⟨a, rfl, _⟩ := hc 0 (by simp)
    have := run_convert_bytes_back (P := P) w src dst e a cap ((x :: xs).map byteOf) he1 he2 hdst (fun j hj => by
      obtain ⟨a', ha, h⟩ := hc j hj
      cases ha
      exact h)
    simpa [bytesOf] using this

theorem add_block (b off j : Nat) : (⟨b, off, none⟩ : Addr).add j = ⟨b, off + j, none⟩ := by unfold Addr.add; split <;> simp_all

theorem isByte_bD (c : UInt8) : isByte (bD c) = true := by
  have : c.toNat < 256 := c.toNat_lt
  simp [isByte, bD]; omega

theorem byteOf_bD (c : UInt8) : byteOf (bD c) = c := by
  simp [byteOf, bD]

theorem repL_bD : ∀ (l : List UInt8), RepL w S (l.map bD) (l.map fun c => .int .u8 (c.toNat : Int))
  | [] => .nil
  | _ :: l => .cons (.v rfl) (repL_bD l)

theorem flat_bD (l : List UInt8) : flat (l.map bD) = l.map bD := flat_bytes _ (by simp [isByte_bD])

end

section steps
variable {P : Program} {N : Slots} {C : Ctx P N} {env : Env} {σ : Store} {a : Act} {w : World} {S : Nat → Prop} {o : Oper}
variable {Qp : D → Store → Prop} {next : Env → Store → Prop} {nx : Act → World → Prop} {Q : Exit → Act → World → Prop}

theorem fr_drew (hl : ∀ b, S b → b < w.heap.size) (σ : Store) : Fr w S (sdom σ) w.drew S σ :=
  ⟨rfl, rfl, rfl, Nat.le_refl _, Shape.refl w, fun _ _ _ => rfl, fun _ h => h, fun _ h => .inl h, fun _ h => .inl h, hl⟩

theorem store_drew (h : RepStore w S σ) : RepStore w.drew S σ := fun b o hb => by
  obtain ⟨h1, h2⟩ := h b o hb
  exact ⟨h1, h2.ev ⟨fun _ h => h, fun _ _ => rfl, Shape.refl w⟩ rfl⟩

/-- A step that draws, and makes a new object. -/
theorem step_drew_new (h : Sim C env σ w S a.tmps) (hd0 : a.defers = C.ds) (hN : dstOk N o.dst) {ob : Obj} {x : AObj} {d : D} {v : Value}
    (hnx : ∀ a w, NX C next a w → nx a w) (hrun : (execOp a.eval o).run P w = .ok (.value v) (w.drew.alloc ob)) (hx : RepObj (w.drew.alloc ob) S w.heap.size x) (hd : Rep (w.drew.alloc ob) S d v)
    (hn : next (eputo o.dst d env) ((w.heap.size, x) :: σ)) : o.wp P a w nx Q := by
  have h' : Sim C env σ w.drew S a.tmps := ⟨h.env.ev (sim_ev h (fr_drew h.fr.lt σ)), store_drew h.store, h.fr.trans (fr_drew h.fr.lt σ), h.size⟩
  refine step_ok h hd0 hN hnx hrun hd (store_alloc (store_drew h.store) h.fr.lt ob x hx) ?_ hn
  exact (fr_drew h.fr.lt σ).trans (fr_alloc h' ob x)

theorem s_convert (h : Sim C env σ w S a.tmps) (hd0 : a.defers = C.ds) (hN : dstOk N o.dst) (hnx : ∀ a w, NX C next a w → nx a w) {src dst : TypeId} {x : Operand} (ho : o.op = .convert src dst x)
    (hv : vcRes P Qp next o.dst env σ (aConv P σ src dst (ev env x))) : o.wp P a w nx Q := by
  have hx := ev_rep h x
  unfold aConv at hv
  split at hv
  · rename_i xs hd
    rw [hd] at hx
    obtain ⟨⟨h1, h2, h3⟩, hk⟩ := hv
    obtain ⟨ad, cap, hev, hcap, hcase⟩ := slc_inv hx
    refine step_val h hd0 hN hnx (v := .string (bytesOf xs)) ?_ (.v rfl) hk
    have hrun : (convert src dst (.slice ad xs.length cap)).run P w = .ok (.string (bytesOf xs)) w := run_bytes_back h1 h2 (fun j hj => by
      rcases hcase with rfl | ⟨b, off, sz, vals, rfl, hb, hr, hc, hs⟩
      · simp at hj
      · refine ⟨_, rfl, ?_⟩
        rw [add_block]
        rw [flat_bytes xs h3] at hr
        exact hc j _ (bytes_get h3 hr j hj))
    simp [execOp, ho, hev, hrun]
  · rename_i ob sz n hd
    rw [hd] at hx
    split at hv
    · rename_i xs hs
      obtain ⟨⟨h1, h2, h3, h4⟩, hk⟩ := hv
      refine step_val h hd0 hN hnx (v := .string (bytesOf (xs.take n))) ?_ (.v rfl) hk
      cases ob with
      | none =>
        obtain ⟨ad, hev, rfl⟩ := own0_inv hx
        have hrun : (convert src dst (.slice ad 0 0)).run P w = .ok (.string (bytesOf [])) w := run_bytes_back (xs := []) h1 h2 (fun j hj => by simp at hj)
        simp only [execOp, ho, hev]
        rw [Sem.run_bind, hrun]; rfl
      | some b =>
        obtain ⟨cap, c, e, fr, hev, hcap, hh, hcs⟩ := own_inv hx
        simp only [oget] at hs
        split at hs
        · rename_i s ys hg
          split at hs
          · rename_i hs1
            cases hs; subst hs1
            have hobj := (h.store b _ hg).2
            have h3' : (xs.take n).all isByte = true := by
              rw [List.all_eq_true] at h3 ⊢
              exact fun y hy => h3 y (List.mem_of_mem_take hy)
            have hrun : (convert src dst (.slice (some ⟨b, 0, none⟩) (xs.take n).length cap)).run P w = .ok (.string (bytesOf (xs.take n))) w := run_bytes_back h1 h2 (fun j hj => by
              refine ⟨_, rfl, ?_⟩
              rw [add_block, Nat.zero_add]
              have hj' : j < xs.length := by simp at hj; omega
              have hjn : j < n := by simp at hj; omega
              obtain ⟨v, hv, hrep⟩ := arr_cell hobj hj' 0 0 xs[j] (by
                have hb := (List.all_eq_true.1 h3) _ (List.getElem_mem hj')
                rw [getD_lt _ _ _ hj', isByte_cells hb]; simp)
              simp only [Nat.mul_one, Nat.add_zero] at hv
              rw [hv, isByte_rep ((List.all_eq_true.1 h3) _ (List.getElem_mem hj')) hrep]
              simp)
            rw [List.length_take, Nat.min_eq_left h4] at hrun
            simp [execOp, ho, hev, hrun]
          · cases hs
        · cases hs
    · exact hv.elim
  · rename_i s hd
    rw [hd] at hx
    split at hv
    · rename_i hc
      obtain ⟨e, he1, he2⟩ := isByteSlice_eq hc.1
      have hrun := run_bytes_of_string (P := P) w src dst e s (isStr_eq hc.2) he1 he2
      generalize hg : grownCap w s.size 0 e = cap at hrun
      have hcap : s.size ≤ cap := by have := grownCap_ge w s.size 0 e; omega
      have hbs : (bytesRow s cap).size = cap := by simp [bytesRow]; have : s.data.size = s.size := rfl; omega
      refine step_drew_new h hd0 hN hnx (v := .slice (some ⟨w.heap.size, 0, none⟩) s.size cap) ?_ ?_ ?_ (hv.2 _ (not_sdom_size h.store)) (ob := .cells (bytesRow s cap) e ((bytesRow s cap).size, (bytesRow s cap).size + 1))
      · simp only [execOp, ho, hx.v_inv]; rw [Sem.run_bind, hrun]; rfl
      · refine ⟨_, _, _, _, s.data.toList.map fun c => .int .u8 (c.toNat : Int), heap_alloc w.drew _, ?_, ?_, ?_, .inr (Nat.le_refl _)⟩
        · rw [flat_bD]; exact repL_bD _
        · intro k v hk
          have hk' := (List.getElem?_eq_some_iff.1 hk).1
          simp only [List.length_map, Array.length_toList] at hk'
          rw [bytesRow, Array.getElem?_append_left (by simpa using hk')]
          simpa using hk
        · intro y hy
          obtain ⟨c, _, rfl⟩ := List.mem_map.1 hy
          rfl
      · exact Rep.own (heap_alloc w.drew _) hcap (by rw [hbs]; omega) (by have h46 := hv.1; have := grownCap_le_maxLen w s.size 0 e (by unfold maxLen; omega); rw [hg] at this; exact this)
    · obtain ⟨d, v, hrun, hrep, hk⟩ := scal_ok hv w S
      exact step_val h hd0 hN hnx (v := v) (by simp only [execOp, ho, hx.v_inv]; rw [Sem.run_bind, hrun]; rfl) hrep hk
  · rename_i y _ hd
    rw [hd] at hx
    obtain ⟨d, v, hrun, hrep, hk⟩ := scal_ok hv w S
    exact step_val h hd0 hN hnx (v := v) (by simp only [execOp, ho, hx.v_inv]; rw [Sem.run_bind, hrun]; rfl) hrep hk
  · exact hv.elim

end steps
end Go.Ab
