/- The steps of a region, part 11: append. -/
import Derived.Test.YtcpcfglccnmmnaaAbM
set_option linter.unusedSimpArgs false
set_option linter.unusedVariables false
set_option linter.constructorNameAsVariable false
namespace Go.Ab
open Go

section
variable {P : Program} {w : World} {S : Nat → Prop}

/-- What an append reads, as the model reads it. -/
structure Src (P : Program) (w : World) (n : Nat) (x : Value) (news : List Value) (m : Nat) : Prop where
  len : ∀ w', (Builtin.lenOf x).run P w' = .ok m w'
  cells : ∀ w', w'.heap = w.heap → (Builtin.firstCells n m x).run P w' = .ok news.toArray w'
  size : news.length = m * n

theorem cell_heap {w w' : World} (h : w'.heap = w.heap) (a : Addr) : w'.cell? a = w.cell? a := by simp [World.cell?, h]

theorem src_ok {σ : Store} {x : D} {xv : Value} {ys : List D} {n : Nat} (hst : RepStore w S σ) (hx : Rep w S x xv) (h : srcOf σ x = some ys) (hn : ∀ y ∈ ys, y.cells.length = n ∧ y.plain = true) :
    ∃ news, Src P w n xv news ys.length ∧ RepL w S (flat ys) news := by
  have fromCells : ∀ {b off len cap : Nat} {vals : List Value}, xv = .slice (some ⟨b, off, none⟩) len cap → len = ys.length → RepL w S (flat ys) vals → (∀ k v, vals[k]? = some v → w.cell? ⟨b, off + k, none⟩ = some v) →
      ∃ news, Src P w n xv news ys.length ∧ RepL w S (flat ys) news := by
    intro b off len cap vals he hl hr hc
    subst he; subst hl
    have hvl : vals.length = ys.length * n := by rw [hr.length, flat_length ys n (fun y hy => (hn y hy).1)]
    refine ⟨vals, ⟨fun w' => rfl, fun w' hw => ?_, hvl⟩, hr⟩
    exact run_firstCells_some (P := P) w' n ys.length ⟨b, off, none⟩ ys.length cap vals hvl (fun j v hj => by rw [add_block, cell_heap hw]; exact hc j v hj)
  have nothing : ∀ {ad : Option Addr} {cap : Nat}, xv = .slice ad 0 cap → ys = [] → ∃ news, Src P w n xv news ys.length ∧ RepL w S (flat ys) news := by
    intro ad cap he hy
    subst he; subst hy
    refine ⟨[], ⟨fun w' => rfl, fun w' _ => ?_, by simp⟩, .nil⟩
    cases ad with
    | none => exact run_firstCells_none w' n 0 0 cap
    | some a => exact run_firstCells_some (P := P) w' n 0 a 0 cap [] (by simp) (fun j v hj => by simp at hj)
  unfold srcOf at h
  split at h
  · cases h
    obtain ⟨ad, cap, he, hcap, rfl | ⟨b, off, sz, vals, rfl, hb, hr, hc, hs⟩⟩ := slc_inv hx
    · exact nothing he rfl
    · exact fromCells he rfl hr hc
  · rename_i ob sz k
    split at h
    · rename_i xs hs
      split at h
      · rename_i hk
        cases h
        cases ob with
        | none =>
          obtain ⟨ad, he, rfl⟩ := own0_inv hx
          exact nothing he rfl
        | some b =>
          simp only [oget] at hs
          split at hs
          · rename_i s zs hg
            split at hs
            · rename_i hs1
              cases hs; subst hs1
              obtain ⟨cap, c, e, fr, he, hcap, hh, hcs⟩ := own_inv hx
              obtain ⟨c', e', lo, hi, vals, hh', hr, hc, hs', hfz⟩ := (hst b _ hg).2
              rw [hh] at hh'; cases hh'
              refine fromCells (vals := vals.take (k * s)) he (by simp; omega) ?_ ?_
              · rw [flat_take xs k hs']; exact hr.take _
              · intro j v hj
                rw [List.getElem?_take] at hj
                split at hj
                · rw [Nat.zero_add, cells_of_row hh]; exact hc j v hj
                · cases hj
            · cases hs
          · cases hs
      · cases h
    · cases h
  · cases h
    exact nothing hx.v_inv rfl
  · cases h
    rename_i s
    have he := hx.v_inv
    subst he
    have hl : (s.data.toList.map bD).length = s.size := by simp
    rw [hl]
    refine ⟨s.data.toList.map fun c => .int .u8 (c.toNat : Int), ⟨fun w' => rfl, fun w' _ => ?_, ?_⟩, by rw [flat_bD]; exact repL_bD _⟩
    · have : (s.extract 0 s.size) = s := by simp
      simp only [Builtin.firstCells, Sem.run_pure, this]
      congr 1
      apply Array.ext'
      simp
    · simp only [List.length_map, Array.length_toList]
      cases hsl : s.data.toList with
      | nil => have : s.size = 0 := by show s.data.size = 0; rw [← Array.length_toList, hsl]; rfl
               have h0 : s.data.size = 0 := this
               rw [this, h0, Nat.zero_mul]
      | cons c r =>
        have := (hn (bD c) (by rw [hsl]; simp)).1
        have hn1 : n = 1 := this.symm
        subst hn1
        show s.data.size = s.size * 1
        rw [Nat.mul_one]; rfl
  · cases h

/-- The grown row, read back. -/
theorem app_room {ts : Array TypeId} {T T2 ty e e2 : TypeId} {i : TypeInfo} {g sLen sCap m : Nat} {xv : Value} {news : List Value} {c : Array Value} {fr : Nat × Nat} (h0 : ts[0]? = some T) (h1 : ts[1]? = some T2) (hT : P.underlying T = some (.slice e)) (hT2 : P.underlying T2 = P.underlying T ∨ isStr P T2 = true)
    (hi : P.info? e = some i) (hsrc : Src P w i.size xv news m) (hh : w.heap[g]? = some (.cells c e2 fr)) (hcs : sCap * i.size ≤ c.size) (hfz : fr.2 ≤ fr.1 ∨ c.size ≤ fr.1) (ho : ∀ v ∈ news, v.oneCell' = true) (hroom : sLen + m ≤ sCap) :
    (Builtin.append_ ts ty #[.slice (some ⟨g, 0, none⟩) sLen sCap, xv]).run P w = .ok (.slice (some ⟨g, 0, none⟩) (sLen + m) sCap) (w.setCells g (sLen * i.size) news) := by
  have hz : ∃ d, P.underlying T2 = some d ∧ ∀ k, d ≠ .int k := by
    rcases hT2 with h | h
    · exact ⟨_, h.trans hT, fun k hk => nomatch hk⟩
    · exact ⟨_, isStr_eq h, fun k hk => nomatch hk⟩
  obtain ⟨d, hd, hdn⟩ := hz
  have hfit : sLen * i.size + news.length ≤ c.size := by rw [hsrc.size, ← Nat.add_mul]; exact Nat.le_trans (Nat.mul_le_mul_right _ hroom) hcs
  have hst := run_storeCells_cells (P := P) g (sLen * i.size) news 0 w
    (fun j hj => by rw [cells_of_row hh, Array.getElem?_eq_getElem (by omega)]; rfl)
    (fun j hj => by
      unfold World.frozen?
      simp only [hh]
      obtain ⟨lo, hi'⟩ := fr
      simp at hfz ⊢; omega) ho
  simp only [Nat.add_zero] at hst
  have hadd : (⟨g, 0, none⟩ : Addr).add (sLen * i.size) = ⟨g, sLen * i.size, none⟩ := by rw [add_block, Nat.zero_add]
  have hc := hsrc.cells w rfl
  unfold Builtin.append_
  simp [h0, h1, run_underlying hT, run_underlying hd, sizeOf, typeInfo, hi, hsrc.len, hroom, hc, hadd, hst]

theorem app_grow {ts : Array TypeId} {T T2 ty e : TypeId} {i : TypeInfo} {z : Value} {ad : Option Addr} {sLen sCap m : Nat} {xv : Value} {news olds : List Value} (h0 : ts[0]? = some T) (h1 : ts[1]? = some T2) (hT : P.underlying T = some (.slice e)) (hT2 : P.underlying T2 = P.underlying T ∨ isStr P T2 = true)
    (hi : P.info? e = some i) (hz : i.zero = some z) (hsrc : Src P w i.size xv news m) (hold : ∀ w', w'.heap = w.heap → (Builtin.firstCells i.size sLen (.slice ad sLen sCap)).run P w' = .ok olds.toArray w')
    (hroom : sCap < sLen + m) (hb : (sLen + m) * i.bytes ≤ 2 ^ 46) (hlt : sLen + m < 2 ^ 46) :
    (Builtin.append_ ts ty #[.slice ad sLen sCap, xv]).run P w = .ok (.slice (some ⟨w.heap.size, 0, none⟩) (sLen + m) (grownCap w (sLen + m) sCap e))
      (w.drew.alloc (.cells (olds.toArray ++ news.toArray ++ Builtin.zeroCells z.cells (grownCap w (sLen + m) sCap e - (sLen + m))) e)) := by
  have hz : ∃ d, P.underlying T2 = some d ∧ ∀ k, d ≠ .int k := by
    rcases hT2 with h | h
    · exact ⟨_, h.trans hT, fun k hk => nomatch hk⟩
    · exact ⟨_, isStr_eq h, fun k hk => nomatch hk⟩
  obtain ⟨d, hd, hdn⟩ := hz
  have hn : ¬ (sLen + m ≤ sCap) := by omega
  have h63 : ¬ (9223372036854775807 < ((sLen : Int) + (m : Int))) := by omega
  have h48 : ¬ (281474976710656 < Builtin.nextslicecap (sLen + m) sCap * i.bytes) := by
    have := growslice_fits (need := sLen + m) (old := sCap) (bytes := i.bytes) (by omega) (by omega)
    omega
  have hc := hsrc.cells w.drew rfl
  have ho := hold w.drew rfl
  unfold Builtin.append_
  simp [h0, h1, run_underlying hT, run_underlying hd, sizeOf, typeInfo, zeroValue, hi, hz, hsrc.len, hn, h63, h48, Question.forced, hc, ho, newRow, grownCap]
  congr 2
  apply Array.ext'
  simp [List.append_assoc]

end
end Go.Ab
