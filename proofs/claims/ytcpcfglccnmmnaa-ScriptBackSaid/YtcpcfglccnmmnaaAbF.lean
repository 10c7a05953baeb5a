/- The steps of a region, part 3: reading and writing cells, addresses, slices, structs. -/
import Derived.Test.YtcpcfglccnmmnaaAbE
set_option linter.unusedSimpArgs false
set_option linter.unusedVariables false
set_option linter.constructorNameAsVariable false
namespace Go.Ab
open Go

theorem getD_lt {α : Type} (xs : List α) (i : Nat) (z : α) (h : i < xs.length) : xs.getD i z = xs[i] := by simp [h]

theorem flat_getD (xs : List D) (sz : Nat) (hs : ∀ x ∈ xs, x.cells.length = sz) : ∀ (i : Nat), i < xs.length → ∀ j, j < sz → (flat xs)[i * sz + j]? = (xs.getD i .any).cells[j]? := by
  induction xs with
  | nil => intro i hi; simp at hi
  | cons x xs ih =>
    intro i hi j hj
    have hx : x.cells.length = sz := hs x (by simp)
    cases i with
    | zero => simp only [flat_cons, Nat.zero_mul, Nat.zero_add, List.getD_cons_zero]; rw [List.getElem?_append_left (by omega)]
    | succ i =>
      simp only [flat_cons, List.getD_cons_succ]
      rw [List.getElem?_append_right (by rw [hx, Nat.succ_mul]; omega)]
      rw [show (i + 1) * sz + j - x.cells.length = i * sz + j by rw [hx, Nat.succ_mul]; omega]
      exact ih (fun y hy => hs y (by simp [hy])) i (by simpa using hi) j hj

theorem flat_length (xs : List D) (sz : Nat) (hs : ∀ x ∈ xs, x.cells.length = sz) : (flat xs).length = xs.length * sz := by
  induction xs with
  | nil => simp
  | cons x xs ih =>
    simp only [flat_cons, List.length_append, List.length_cons, Nat.succ_mul]
    rw [ih (fun y hy => hs y (by simp [hy])), hs x (by simp)]
    omega

theorem flat_set (xs : List D) (sz : Nat) (hs : ∀ x ∈ xs, x.cells.length = sz) : ∀ (i : Nat) (y : D), i < xs.length → y.cells.length = sz → flat (xs.set i y) = (flat xs).take (i * sz) ++ y.cells ++ (flat xs).drop (i * sz + sz) := by
  induction xs with
  | nil => intro i y hi; simp at hi
  | cons x xs ih =>
    intro i y hi hy
    have hx : x.cells.length = sz := hs x (by simp)
    cases i with
    | zero => simp [hx]
    | succ i =>
      simp only [List.set_cons_succ, flat_cons]
      rw [ih (fun y hy => hs y (by simp [hy])) i y (by simpa using hi) hy]
      rw [List.take_append, List.drop_append, hx]
      have e1 : (i + 1) * sz - sz = i * sz := by rw [Nat.succ_mul]; omega
      have e2 : (i + 1) * sz + sz - sz = i * sz + sz := by rw [Nat.succ_mul]; omega
      have e3 : x.cells.take ((i + 1) * sz) = x.cells := List.take_of_length_le (by rw [hx, Nat.succ_mul]; omega)
      have e4 : x.cells.drop ((i + 1) * sz + sz) = [] := List.drop_of_length_le (by rw [hx, Nat.succ_mul]; omega)
      rw [e1, e2, e3, e4]
      simp

theorem getElem?_flat {xs : List D} {sz i : Nat} (hs : ∀ x ∈ xs, x.cells.length = sz) (hi : i < xs.length) (j : Nat) (d : D) (h : (xs.getD i .any).cells[j]? = some d) : (flat xs)[i * sz + j]? = some d := by
  have hx : (xs.getD i .any).cells.length = sz := by
    rw [getD_lt _ _ _ hi]
    exact hs _ (List.getElem_mem hi)
  have hj : j < sz := by
    have := (List.getElem?_eq_some_iff.1 h).1
    omega
  rw [flat_getD xs sz hs i hi j hj]; exact h

section
variable {P : Program} {w : World} {S : Nat → Prop}

/-- Some cells in a row, read as they lie. -/
theorem rep_load {cs : List D} {b off n : Nat} {T : TypeId} {g : Bool} (hn : rsize P T = some n) (hg : ragg P T = some g) (hok : getcOk g n cs)
    (hc : ∀ (j : Nat) (d : D), cs[j]? = some d → ∃ v, w.cell? ⟨b, off + j, none⟩ = some v ∧ Rep w S d v) : ∃ v, (loadVar T ⟨b, off, none⟩).run P w = .ok v w ∧ Rep w S (getc g n cs) v := by
  cases g with
  | false =>
    cases cs with
    | nil => simp [getcOk] at hok
    | cons d cs =>
      obtain ⟨v, hv, hr⟩ := hc 0 d (by simp)
      refine ⟨v, ?_, by simpa [getc] using hr⟩
      simp only [Nat.add_zero] at hv
      simp [loadVar, run_isAgg hg, hv]
  | true =>
    simp only [getcOk, if_true] at hok
    have : ∀ m, m ≤ n → ∃ vals : List Value, vals.length = m ∧ RepL w S (cs.take m) vals ∧ ∀ j v, vals[j]? = some v → w.cell? ⟨b, off + j, none⟩ = some v := by
      intro m
      induction m with
      | zero => intro _; exact ⟨[], rfl, by simpa using RepL.nil, fun j v hv => by simp at hv⟩
      | succ m ih =>
        intro hm
        obtain ⟨vals, hl, hr, hv⟩ := ih (by omega)
        obtain ⟨d, hd⟩ : ∃ d, cs[m]? = some d := ⟨cs[m]'(by omega), by simp⟩
        obtain ⟨v, hvc, hvr⟩ := hc m d hd
        refine ⟨vals ++ [v], by simp [hl], ?_, ?_⟩
        · rw [List.take_add_one, hd]
          exact hr.append (.one hvr)
        · intro j u hu
          by_cases hj : j < m
          · rw [List.getElem?_append_left (by omega)] at hu
            exact hv j u hu
          · have hjm : j = m := by
              have := (List.getElem?_eq_some_iff.1 hu).1
              simp at this; omega
            subst hjm
            rw [List.getElem?_append_right (by omega)] at hu
            simp [hl] at hu
            subst hu; exact hvc
    obtain ⟨vals, hl, hr, hv⟩ := this n (Nat.le_refl _)
    refine ⟨.agg vals.toArray, ?_, by simpa [getc] using Rep.agg hr⟩
    have hload := run_loadCells_list (P := P) w ⟨b, off, none⟩ vals (fun j v hj => by
      have := hv j v hj
      unfold Addr.add
      split
      · rename_i h0; subst h0; simpa using this
      · simpa using this)
    rw [hl] at hload
    simp [loadVar, run_isAgg hg, run_sizeOf hn, hload]

theorem cells_of_row {b : Nat} {c : Array Value} {e : TypeId} {fr : Nat × Nat} (h : w.heap[b]? = some (.cells c e fr)) (k : Nat) : w.cell? ⟨b, k, none⟩ = c[k]? := by
  simp [World.cell?, h]

theorem arr_cell {b sz i : Nat} {xs : List D} (h : RepObj w S b (.arr sz xs)) (hi : i < xs.length) (o j : Nat) (d : D) (hd : ((xs.getD i .any).cells.drop o)[j]? = some d) :
    ∃ v, w.cell? ⟨b, i * sz + o + j, none⟩ = some v ∧ Rep w S d v := by
  obtain ⟨c, e, lo, hi', vals, hh, hr, hc, hs, hfz⟩ := h
  rw [List.getElem?_drop] at hd
  obtain ⟨v, hv, hrep⟩ := hr.get _ d (getElem?_flat hs hi (o + j) d hd)
  refine ⟨v, ?_, hrep⟩
  rw [cells_of_row hh]
  have := hc _ v hv
  rw [show i * sz + o + j = i * sz + (o + j) by omega]; exact this

end

section steps
variable {P : Program} {N : Slots} {C : Ctx P N} {env : Env} {σ : Store} {a : Act} {w : World} {S : Nat → Prop} {o : Oper}
variable {Qp : D → Store → Prop} {next : Env → Store → Prop} {nx : Act → World → Prop} {Q : Exit → Act → World → Prop}

theorem elt_inv {cs : List D} {v : Value} (h : Rep w S (.elt cs) v) : ∃ b off vals, v = .pointer (some ⟨b, off, none⟩) ∧ S b ∧ RepL w S cs vals ∧ CellsAt w b off vals := by
  cases h with
  | elt hb hr hc => exact ⟨_, _, _, rfl, hb, hr, hc⟩

theorem ptr_inv {b sz i o : Nat} {v : Value} (h : Rep w S (.ptr b sz i o) v) : v = .pointer (some ⟨b, i * sz + o, none⟩) := by cases h; rfl

theorem s_load (h : Sim C env σ w S a.tmps) (hd0 : a.defers = C.ds) (hN : dstOk N o.dst) (hnx : ∀ a w, NX C next a w → nx a w) {T : TypeId} {x : Operand} (ho : o.op = .load T x)
    (hv : vcRes P Qp next o.dst env σ (aLoad P σ T (ev env x))) : o.wp P a w nx Q := by
  unfold aLoad at hv
  have hx := ev_rep h x
  split at hv
  · rename_i n g cs hn hg hd
    rw [hd] at hx
    obtain ⟨b, off, vals, he, hb, hr, hc⟩ := elt_inv hx
    obtain ⟨hok, hk⟩ := hv
    obtain ⟨v, hrun, hrep⟩ := rep_load (P := P) (w := w) (S := S) (b := b) (off := off) hn hg hok (fun j d hj => by
      obtain ⟨v, hv, hrep⟩ := hr.get j d hj
      exact ⟨v, hc j v hv, hrep⟩)
    exact step_val h hd0 hN hnx (v := v) (by simp [execOp, ho, Instr.loadAt, Instr.sureAddr, he, hrun]) hrep hk
  · rename_i n g b sz i off hn hg hd
    rw [hd] at hx
    have he := ptr_inv hx
    split at hv
    · rename_i sz' xs hs
      obtain ⟨⟨rfl, hi, hok⟩, hk⟩ := hv
      have hobj := (h.store b _ hs).2
      obtain ⟨v, hrun, hrep⟩ := rep_load (P := P) (w := w) (S := S) (b := b) (off := i * sz' + off) hn hg hok (fun j d hj => arr_cell hobj hi off j d hj)
      exact step_val h hd0 hN hnx (v := v) (by simp [execOp, ho, Instr.loadAt, Instr.sureAddr, he, hrun]) hrep hk
    · exact hv.elim
  · exact hv.elim

theorem s_nilCheck (h : Sim C env σ w S a.tmps) (hd0 : a.defers = C.ds) (hN : dstOk N o.dst) (hnx : ∀ a w, NX C next a w → nx a w) {x : Operand} (ho : o.op = .nilCheck x)
    (hv : vcRes P Qp next o.dst env σ (aNilCheck (ev env x))) : o.wp P a w nx Q := by
  have hx := ev_rep h x
  have key : ∀ d, ev env x = d → vcRes P Qp next o.dst env σ (.val True d) → (∀ v, Rep w S d v → (match v with
      | .pointer none | .nilIface | .nilFunc => False
      | .func (.method _) _ _ => False
      | _ => True)) → o.wp P a w nx Q := by
    intro d hd hv hr
    rw [hd] at hx
    have hc := hr _ hx
    refine step_val h hd0 hN hnx (v := a.eval x) ?_ hx hv.2
    simp only [execOp, ho]
    generalize a.eval x = y at hc hx
    split <;> first | exact hc.elim | rfl
  unfold aNilCheck at hv
  split at hv
  · rename_i hd; exact key _ hd hv (fun v hr => by cases hr; trivial)
  · rename_i hd; exact key _ hd hv (fun v hr => by cases hr; trivial)
  · rename_i hd; exact key _ hd hv (fun v hr => by cases hr; trivial)
  · rename_i hd; exact key _ hd hv (fun v hr => by cases hr; trivial)
  · rename_i hd; exact key _ hd hv (fun v hr => by cases hr; trivial)
  · rename_i hd; exact key _ hd hv (fun v hr => by cases hr; trivial)
  · exact hv.elim

theorem s_fieldAddr (h : Sim C env σ w S a.tmps) (hd0 : a.defers = C.ds) (hN : dstOk N o.dst) (hnx : ∀ a w, NX C next a w → nx a w) {T : TypeId} {x : Operand} {f : Nat} (ho : o.op = .fieldAddr T x f)
    (hv : vcRes P Qp next o.dst env σ (aFieldAddr P T (ev env x) f)) : o.wp P a w nx Q := by
  unfold aFieldAddr at hv
  have hx := ev_rep h x
  split at hv
  · rename_i F hF
    obtain ⟨fs, hfs, hf⟩ := rfield_eq hF
    split at hv
    · rename_i n b sz i off hn hd
      rw [hd] at hx
      have he := ptr_inv hx
      obtain ⟨hpos, hk⟩ := hv
      refine step_val h hd0 hN hnx (v := .pointer (some ⟨b, i * sz + (off + F.offset), none⟩)) ?_ .ptr hk
      have hadd : (⟨b, i * sz + off, none⟩ : Addr).add F.offset = ⟨b, i * sz + (off + F.offset), none⟩ := by
        unfold Addr.add; split <;> simp_all [Nat.add_assoc]
      have hne : ¬ n = 0 := by omega
      simp [execOp, ho, he, Instr.fieldAt, Instr.sureAddr, run_underlying hfs, hf, fieldPlace, run_sizeOf hn, hne, hadd]
    · rename_i n cs hn hd
      rw [hd] at hx
      obtain ⟨b, off, vals, he, hb, hr, hc⟩ := elt_inv hx
      obtain ⟨⟨hpos, hle⟩, hk⟩ := hv
      refine step_val h hd0 hN hnx (v := .pointer (some ⟨b, off + F.offset, none⟩)) ?_ (.elt hb (hr.drop F.offset) ?_) hk
      · have hadd : (⟨b, off, none⟩ : Addr).add F.offset = ⟨b, off + F.offset, none⟩ := by
          unfold Addr.add; split <;> simp_all
        have hne : ¬ n = 0 := by omega
        simp [execOp, ho, he, Instr.fieldAt, Instr.sureAddr, run_underlying hfs, hf, fieldPlace, run_sizeOf hn, hne, hadd]
      · intro k v hk
        rw [List.getElem?_drop] at hk
        rw [show off + F.offset + k = off + (F.offset + k) by omega]
        exact hc _ v hk
    · exact hv.elim
  · exact hv.elim

theorem agg_inv {cs : List D} {v : Value} (h : Rep w S (.agg cs) v) : ∃ vals : List Value, v = .agg vals.toArray ∧ RepL w S cs vals := by
  cases h with
  | agg hr => exact ⟨_, rfl, hr⟩

/-- A part of an aggregate in hand. -/
theorem rep_part {cs : List D} {vals : List Value} {off n : Nat} {T : TypeId} {g : Bool} (hn : rsize P T = some n) (hg : ragg P T = some g) (hok : getcOk g n (cs.drop off)) (hr : RepL w S cs vals) :
    ∃ v, (part T vals.toArray off).run P w = .ok v w ∧ Rep w S (getc g n (cs.drop off)) v := by
  cases g with
  | false =>
    simp only [getcOk, Bool.false_eq_true, if_false] at hok
    obtain ⟨d, hd⟩ : ∃ d, (cs.drop off)[0]? = some d := ⟨(cs.drop off)[0]'hok, by simp⟩
    have hd' := hd
    rw [List.getElem?_drop] at hd
    obtain ⟨v, hv, hrep⟩ := hr.get _ d hd
    simp only [Nat.add_zero] at hv
    refine ⟨v, by simp [part, run_isAgg hg, hv], ?_⟩
    simp only [getc, Bool.false_eq_true, if_false]
    cases hcs : cs.drop off with
    | nil => rw [hcs] at hd'; simp at hd'
    | cons y ys => rw [hcs] at hd'; simp at hd'; subst hd'; exact hrep
  | true =>
    refine ⟨.agg ((vals.drop off).take n).toArray, ?_, by simpa [getc] using Rep.agg ((hr.drop off).take n)⟩
    simp [part, run_isAgg hg, run_sizeOf hn]

theorem s_field (h : Sim C env σ w S a.tmps) (hd0 : a.defers = C.ds) (hN : dstOk N o.dst) (hnx : ∀ a w, NX C next a w → nx a w) {T : TypeId} {x : Operand} {f : Nat} (ho : o.op = .field T x f)
    (hv : vcRes P Qp next o.dst env σ (aField P T (ev env x) f)) : o.wp P a w nx Q := by
  unfold aField at hv
  have hx := ev_rep h x
  split at hv
  · rename_i F hF
    obtain ⟨fs, hfs, hf⟩ := rfield_eq hF
    split at hv
    · rename_i n g cs hn hg hd
      rw [hd] at hx
      obtain ⟨vals, he, hr⟩ := agg_inv hx
      obtain ⟨v, hrun, hrep⟩ := rep_part (P := P) hn hg hv.1 hr
      exact step_val h hd0 hN hnx (v := v) (by simp [execOp, ho, he, Instr.field, run_underlying hfs, hf, asAgg, hrun]) hrep hv.2
    · exact hv.elim
  · exact hv.elim

end steps
end Go.Ab
