/- The steps of a region, part 7: cuts of slices and strings, makes, structs, lengths, asserts, strings gone through. -/
import Derived.Test.YtcpcfglccnmmnaaAbI
set_option linter.unusedSimpArgs false
set_option linter.unusedVariables false
set_option linter.constructorNameAsVariable false
namespace Go.Ab
open Go

section
variable {P : Program} {w : World} {S : Nat → Prop}

theorem optIx_rep {lo : Option D} {vo : Option Value} {z l : Int} (h : optIx lo z = some l) (hr : ∀ d, lo = some d → ∃ v, vo = some v ∧ Rep w S d v) (hn : lo = none → vo = none) :
    (vo = none ∧ l = z) ∨ ∃ k, vo = some (.int k l) := by
  cases lo with
  | none => simp [optIx] at h; exact .inl ⟨hn rfl, h.symm⟩
  | some d =>
    obtain ⟨v, rfl, hv⟩ := hr d rfl
    obtain ⟨k, rfl⟩ := ixOf_rep h hv
    exact .inr ⟨k, rfl⟩

theorem run_bounds {isSlice : Bool} {len cap : Nat} {lo hi : Option Value} {l h : Int} (hlo : (lo = none ∧ l = 0) ∨ ∃ k, lo = some (.int k l)) (hhi : (hi = none ∧ h = len) ∨ ∃ k, hi = some (.int k h))
    (h0 : 0 ≤ l) (h1 : l ≤ h) (h2 : h ≤ cap) : (Instr.sliceBounds isSlice len cap lo hi none).run P w = .ok (l.toNat, h.toNat, cap) w := by
  have eh : (h.toNat : Int) = h := Int.toNat_of_nonneg (by omega)
  have h3 : 0 ≤ h := by omega
  have h4 : l ≤ (h.toNat : Int) := by omega
  rcases hlo with ⟨rfl, rfl⟩ | ⟨kl, rfl⟩ <;> rcases hhi with ⟨rfl, rfl⟩ | ⟨kh, rfl⟩
  · simp [Instr.sliceBounds]
  · cases isSlice <;> simp [Instr.sliceBounds, run_sliceBound w kh h cap _ h3 h2]
  · simp [Instr.sliceBounds, run_sliceBound w kl l len _ h0 h1]
  · cases isSlice <;> simp [Instr.sliceBounds, run_sliceBound w kh h cap _ h3 h2, run_sliceBound w kl l h.toNat _ h0 h4]

theorem flat_drop {sz : Nat} : ∀ (ys : List D) (k : Nat), (∀ y ∈ ys, y.cells.length = sz) → flat (ys.drop k) = (flat ys).drop (k * sz)
  | [], k, _ => by simp
  | y :: ys, 0, _ => by simp
  | y :: ys, k + 1, hy => by
    have h1 : y.cells.length = sz := hy y (by simp)
    have h2 : y.cells.drop ((k + 1) * sz) = [] := List.drop_of_length_le (by rw [h1, Nat.succ_mul]; omega)
    rw [List.drop_succ_cons, flat_drop ys k (fun z hz => hy z (by simp [hz])), flat_cons, List.drop_append, h2, h1, show (k + 1) * sz - sz = k * sz by rw [Nat.succ_mul]; omega]
    simp

theorem flat_take {sz : Nat} : ∀ (ys : List D) (k : Nat), (∀ y ∈ ys, y.cells.length = sz) → flat (ys.take k) = (flat ys).take (k * sz)
  | [], k, _ => by simp
  | y :: ys, 0, _ => by simp
  | y :: ys, k + 1, hy => by
    have h1 : y.cells.length = sz := hy y (by simp)
    have h2 : y.cells.take ((k + 1) * sz) = y.cells := List.take_of_length_le (by rw [h1, Nat.succ_mul]; omega)
    rw [List.take_succ_cons, flat_cons, flat_take ys k (fun z hz => hy z (by simp [hz])), flat_cons, List.take_append, h2, h1, show (k + 1) * sz - sz = k * sz by rw [Nat.succ_mul]; omega]

end

section steps
variable {P : Program} {N : Slots} {C : Ctx P N} {env : Env} {σ : Store} {a : Act} {w : World} {S : Nat → Prop} {o : Oper}
variable {Qp : D → Store → Prop} {next : Env → Store → Prop} {nx : Act → World → Prop} {Q : Exit → Act → World → Prop}

theorem opt_rep (h : Sim C env σ w S a.tmps) (lo : Option Operand) : (∀ d, lo.map (ev env) = some d → ∃ v, lo.map a.eval = some v ∧ Rep w S d v) ∧ (lo.map (ev env) = none → lo.map a.eval = none) := by
  cases lo with
  | none => exact ⟨fun d hd => (nomatch hd), fun _ => rfl⟩
  | some x => exact ⟨fun d hd => by cases hd; exact ⟨_, rfl, ev_rep h x⟩, fun hd => (nomatch hd)⟩

/-- A cut of a slice, told by its bounds. -/
theorem run_cut {T e : TypeId} {n : Nat} {ad : Option Addr} {len cap : Nat} {lo hi mx : Option Value} {l h m : Nat} (he : relem P T = some e) (hn : rsize P e = some n)
    (hb : (Instr.sliceBounds true len cap lo hi mx).run P w = .ok (l, h, m) w) :
    (Instr.sliceAt T (.slice ad len cap) lo hi mx).run P w = .ok (.slice (if m = l then ad else ad.map (·.add (l * n))) (h - l) (m - l)) w := by
  simp only [Instr.sliceAt, Sem.run_bind, run_underlying (relem_eq he), Result.andThen]
  simp only [Instr.slice, Sem.run_bind, run_underlying (relem_eq he), Result.andThen]
  simp [hb, run_sizeOf hn]

theorem s_slice (h : Sim C env σ w S a.tmps) (hd0 : a.defers = C.ds) (hN : dstOk N o.dst) (hnx : ∀ a w, NX C next a w → nx a w) {T : TypeId} {x : Operand} {lo hi mx : Option Operand} (ho : o.op = .slice T x lo hi mx)
    (hv : vcRes P Qp next o.dst env σ (aSlice P T (ev env x) (lo.map (ev env)) (hi.map (ev env)) (mx.map (ev env)))) : o.wp P a w nx Q := by
  have hx := ev_rep h x
  obtain ⟨rlo1, rlo2⟩ := opt_rep h lo
  obtain ⟨rhi1, rhi2⟩ := opt_rep h hi
  obtain ⟨rmx1, rmx2⟩ := opt_rep h mx
  have fin : ∀ {d v}, (Instr.sliceAt T (a.eval x) (lo.map a.eval) (hi.map a.eval) (mx.map a.eval)).run P w = .ok v w → Rep w S d v → next (eputo o.dst d env) σ → o.wp P a w nx Q :=
    fun hrun hrep hk => step_val h hd0 hN hnx (v := _) (by simp only [execOp, ho]; rw [Sem.run_bind, hrun]; rfl) hrep hk
  have cut0 : ∀ {ad : Option Addr} {len cap : Nat} {m : D}, a.eval x = .slice ad len cap → mx.map (ev env) = some m → vcRes P Qp next o.dst env σ (match optIx (lo.map (ev env)) 0, optIx (hi.map (ev env)) 1, ixOf m, (relem P T).bind (rsize P) with
      | some l, some h, some m, some n => .val (l = 0 ∧ h = 0 ∧ m = 0) (.own none n 0)
      | _, _, _, _ => .bad) → o.wp P a w nx Q := by
    intro ad len cap m hev hm hv
    split at hv
    · rename_i l hh m' n hl0 hh0 hm0 hn
      obtain ⟨⟨rfl, rfl, rfl⟩, hk⟩ := hv
      obtain ⟨e, he, hne⟩ := Option.bind_eq_some_iff.1 hn
      obtain ⟨vm, hvm, hrm⟩ := rmx1 m hm
      obtain ⟨km, rfl⟩ := ixOf_rep hm0 hrm
      have hlo := optIx_rep hl0 rlo1 rlo2
      have hhi := optIx_rep hh0 rhi1 rhi2
      have hb : (Instr.sliceBounds true len cap (lo.map a.eval) (hi.map a.eval) (mx.map a.eval)).run P w = .ok (0, 0, 0) w := by
        rcases hhi with ⟨_, h1⟩ | ⟨kh, hh⟩
        · cases h1
        · rw [hh, hvm]
          have e1 := run_sliceBound (P := P) w km 0 cap .slice3Acap (Int.le_refl _) (by omega)
          have e2 := run_sliceBound (P := P) w kh 0 0 .slice3B (Int.le_refl _) (Int.le_refl _)
          rcases hlo with ⟨h2, _⟩ | ⟨kl, h2⟩
          · rw [h2]; simp [Instr.sliceBounds, e1, e2]
          · have e3 := run_sliceBound (P := P) w kl 0 0 .slice3C (Int.le_refl _) (Int.le_refl _)
            rw [h2]; simp [Instr.sliceBounds, e1, e2, e3]
      exact fin (by rw [hev]; exact run_cut he hne hb) (by simpa using Rep.own0) hk
    · exact hv.elim
  unfold aSlice at hv
  split at hv
  · rename_i s hd hm
    rw [hd] at hx
    split at hv
    · rename_i l hh hl0 hh0
      obtain ⟨⟨ht, h0, h1, h2⟩, hk⟩ := hv
      have hb := run_bounds (P := P) (w := w) (isSlice := false) (len := s.size) (cap := s.size) (optIx_rep hl0 rlo1 rlo2) (optIx_rep hh0 rhi1 rhi2) h0 h1 h2
      refine fin (v := .string (s.extract l.toNat hh.toNat)) ?_ (.v rfl) hk
      rw [hx.v_inv, rmx2 hm]
      simp only [Instr.sliceAt, Sem.run_bind, run_underlying (isStr_eq ht), Result.andThen]
      simp only [Instr.slice, Sem.run_bind, run_underlying (isStr_eq ht), Result.andThen]
      simp [hb]
    · exact hv.elim
  · rename_i xs hd hm
    rw [hd] at hx
    split at hv
    · rename_i l hh n hl0 hh0 hn
      obtain ⟨⟨h0, h1, h2, h3⟩, hk⟩ := hv
      obtain ⟨e, he, hne⟩ := Option.bind_eq_some_iff.1 hn
      obtain ⟨ad, cap, hev, hcap, hcase⟩ := slc_inv hx
      have hb := run_bounds (P := P) (w := w) (isSlice := true) (len := xs.length) (cap := cap) (optIx_rep hl0 rlo1 rlo2) (optIx_rep hh0 rhi1 rhi2) h0 h1 (by omega)
      refine fin (v := .slice (if cap = l.toNat then ad else ad.map (·.add (l.toNat * n))) (hh.toNat - l.toNat) (cap - l.toNat)) ?_ ?_ hk
      · rw [hev, rmx2 hm]; exact run_cut he hne hb
      · have hlen : ((xs.take hh.toNat).drop l.toNat).length = hh.toNat - l.toNat := by simp; omega
        by_cases hz : hh.toNat - l.toNat = 0
        · have : (xs.take hh.toNat).drop l.toNat = [] := List.length_eq_zero_iff.1 (by omega)
          rw [this, hz]; exact .slc0
        · rcases hcase with rfl | ⟨b, off, sz, vals, rfl, hb', hr, hc, hs⟩
          · simp at h2; omega
          · have hsz : sz = n := by
              cases xs with
              | nil => simp at h2; omega
              | cons y ys => rw [← hs y (by simp), ← h3 y (by simp)]
            subst hsz
            rw [if_neg (by omega), ← hlen]
            simp only [Option.map_some, add_block]
            refine Rep.slc hb' (vals := (vals.take (hh.toNat * sz)).drop (l.toNat * sz)) ?_ ?_ (sz := sz) ?_ (by rw [hlen]; omega)
            · rw [flat_drop _ _ (fun y hy => hs y (List.mem_of_mem_take hy)), flat_take _ _ hs]
              exact (hr.take _).drop _
            · intro k v hkv
              rw [List.getElem?_drop, List.getElem?_take] at hkv
              split at hkv
              · rw [show off + l.toNat * sz + k = off + (l.toNat * sz + k) by omega]
                exact hc _ v hkv
              · cases hkv
            · intro y hy
              exact hs y (List.mem_of_mem_take (List.mem_of_mem_drop hy))
    · exact hv.elim
  · rename_i b sz n hd hm
    rw [hd] at hx
    split at hv
    · rename_i l hh k hl0 hh0 hn
      obtain ⟨⟨h0, h1, h2⟩, hk⟩ := hv
      subst h0
      obtain ⟨e, he, hne⟩ := Option.bind_eq_some_iff.1 hn
      cases b with
      | none =>
        obtain ⟨ad, hev, rfl⟩ := own0_inv hx
        have hb := run_bounds (P := P) (w := w) (isSlice := true) (len := 0) (cap := 0) (optIx_rep hl0 rlo1 rlo2) (optIx_rep hh0 rhi1 rhi2) (Int.le_refl _) h1 h2
        have hh0 : hh = 0 := by simp at h2; omega
        subst hh0
        exact fin (by rw [hev, rmx2 hm]; exact run_cut he hne hb) (by simpa using Rep.own0) hk
      | some b =>
        obtain ⟨cap, c, e', fr, hev, hcap, hh', hcs, hcm⟩ := own_cap hx
        have hb := run_bounds (P := P) (w := w) (isSlice := true) (len := n) (cap := cap) (optIx_rep hl0 rlo1 rlo2) (optIx_rep hh0 rhi1 rhi2) (Int.le_refl _) h1 (by omega)
        refine fin (by rw [hev, rmx2 hm]; exact run_cut he hne hb) ?_ hk
        have : (if cap = (0 : Int).toNat then some (⟨b, 0, none⟩ : Addr) else (some (⟨b, 0, none⟩ : Addr)).map (·.add ((0 : Int).toNat * k))) = some ⟨b, 0, none⟩ := by
          simp [Addr.add]
        rw [this]
        simpa using Rep.own hh' (n := hh.toNat) (cap := cap) (by omega) hcs hcm
    · exact hv.elim
  · rename_i hd hm
    rw [hd] at hx
    split at hv
    · rename_i l hh k hl0 hh0 hn
      obtain ⟨⟨rfl, rfl⟩, hk⟩ := hv
      obtain ⟨e, he, hne⟩ := Option.bind_eq_some_iff.1 hn
      have hb := run_bounds (P := P) (w := w) (isSlice := true) (len := 0) (cap := 0) (optIx_rep hl0 rlo1 rlo2) (optIx_rep hh0 rhi1 rhi2) (Int.le_refl _) (Int.le_refl _) (Int.le_refl _)
      exact fin (by rw [hx.v_inv, rmx2 hm]; exact run_cut he hne hb) (by simpa using (Rep.v rfl : Rep w S (.v (.slice none 0 0)) _)) hk
    · exact hv.elim
  · rename_i xs m hd hm
    rw [hd] at hx
    obtain ⟨ad, cap, hev, _⟩ := slc_inv hx
    exact cut0 hev hm hv
  · rename_i b sz n m hd hm
    rw [hd] at hx
    cases b with
    | none => obtain ⟨ad, hev, _⟩ := own0_inv hx; exact cut0 hev hm hv
    | some b => obtain ⟨cap, c, e', fr, hev, _⟩ := own_inv hx; exact cut0 hev hm hv
  · rename_i m hd hm
    rw [hd] at hx
    exact cut0 hx.v_inv hm hv
  · exact hv.elim

end steps
end Go.Ab
