/- The steps of a region, part 2: each operation that leaves the world alone, and those that make an object. -/
import Derived.Test.YtcpcfglccnmmnaaAbD
set_option linter.unusedSimpArgs false
set_option linter.unusedVariables false
set_option linter.constructorNameAsVariable false
namespace Go.Ab
open Go

section
variable {P : Program}

theorem run_sizeOf {T : TypeId} {n : Nat} (h : rsize P T = some n) (w : World) : (sizeOf T).run P w = .ok n w := by
  unfold rsize at h
  cases hi : P.info? T with
  | none => simp [hi] at h
  | some i => simp [hi] at h; simp [sizeOf, typeInfo, hi, h]

theorem run_zeroValue {T : TypeId} {z : Value} (h : rzero P T = some z) (w : World) : (zeroValue T).run P w = .ok z w := by
  unfold rzero at h
  cases hi : P.info? T with
  | none => simp [hi] at h
  | some i => simp [hi] at h; simp [zeroValue, typeInfo, hi, h]

theorem run_isAgg {T : TypeId} {g : Bool} (h : ragg P T = some g) (w : World) : (isAgg T).run P w = .ok g w := by
  unfold ragg at h
  cases hi : P.underlying T with
  | none => simp [hi] at h
  | some d => rw [hi] at h; simp only [Option.map_some, Option.some.injEq] at h; subst h; cases d <;> simp [isAgg, run_underlying hi]

theorem relem_eq {T e : TypeId} (h : relem P T = some e) : P.underlying T = some (.slice e) := by
  unfold relem at h; split at h
  · rename_i e' he; cases h; exact he
  · cases h

theorem rfield_eq {T : TypeId} {f : Nat} {F : Field} (h : rfield P T f = some F) : ∃ fs, P.underlying T = some (.struct fs) ∧ fs[f]? = some F := by
  unfold rfield at h; split at h
  · rename_i fs hfs; exact ⟨fs, hfs, h⟩
  · cases h

theorem scal_ok {s : Sem Value} {Qp : D → Store → Prop} {next : Env → Store → Prop} {dst : Option Nat} {env : Env} {σ : Store} (h : vcRes P Qp next dst env σ (scal P s)) (w : World) (S : Nat → Prop) :
    ∃ d v, s.run P w = .ok v w ∧ Rep w S d v ∧ next (eputo dst d env) σ := by
  unfold scal at h
  split at h
  · rename_i r hr
    split at h
    · rename_i hok
      exact ⟨_, r, purely_run s hr w, rep_ofV hok, h.2⟩
    · exact h.elim
  · exact h.elim
end

section steps
variable {P : Program} {N : Slots} {C : Ctx P N} {env : Env} {σ : Store} {a : Act} {w : World} {S : Nat → Prop} {o : Oper}
variable {Qp : D → Store → Prop} {next : Env → Store → Prop} {nx : Act → World → Prop} {Q : Exit → Act → World → Prop}

theorem s_move (h : Sim C env σ w S a.tmps) (hd0 : a.defers = C.ds) (hN : dstOk N o.dst) (hnx : ∀ a w, NX C next a w → nx a w) {x : Operand} (ho : o.op = .move x ∨ o.op = .assign x)
    (hv : vcRes P Qp next o.dst env σ (.val True (ev env x))) : o.wp P a w nx Q :=
  step_val h hd0 hN hnx (v := a.eval x) (by rcases ho with ho | ho <;> simp [execOp, ho]) (ev_rep h x) hv.2

theorem s_pick (h : Sim C env σ w S a.tmps) (hd0 : a.defers = C.ds) (hN : dstOk N o.dst) (hnx : ∀ a w, NX C next a w → nx a w) {c x y : Operand} (ho : o.op = .pick c x y)
    (hv : vcRes P Qp next o.dst env σ (aPick (ev env c) (ev env x) (ev env y))) : o.wp P a w nx Q := by
  unfold aPick at hv
  split at hv
  · rename_i t ht
    have hc := ev_rep h c
    rw [ht] at hc
    refine step_val h hd0 hN hnx (v := if t then a.eval x else a.eval y) (by simp [execOp, ho, hc.v_inv, asBool]) ?_ hv.2
    cases t
    · exact ev_rep h y
    · exact ev_rep h x
  · exact hv.elim

theorem rep_cells {d : D} {x : Value} (h : Rep w S d x) (hp : d.plain = true) : RepL w S d.cells x.cells.toList := h.cells (by unfold D.plain at hp; simp only [Bool.and_eq_true] at hp; exact hp.1)

theorem s_alloc (h : Sim C env σ w S a.tmps) (hd0 : a.defers = C.ds) (hN : dstOk N o.dst) (hnx : ∀ a w, NX C next a w → nx a w) {T : TypeId} (ho : o.op = .alloc T)
    (hv : vcRes P Qp next o.dst env σ (aAlloc P T)) : o.wp P a w nx Q := by
  unfold aAlloc at hv
  split at hv
  · rename_i n z hn hz
    obtain ⟨⟨h1, h2, h3⟩, hk⟩ := hv
    have hr : Rep w S (ofV z) z := rep_ofV h1
    refine step_new h hd0 hN hnx (ob := .cells z.cells T) (x := .arr n [ofV z]) (d := .ptr w.heap.size n 0 0) (v := .pointer (some ⟨w.heap.size, 0, none⟩)) ?_ ?_ ?_ (hk _ (not_sdom_size h.store))
    · simp [execOp, ho, Instr.alloc, run_zeroValue hz, newVar, newRow]
    · refine repObj_arr h.fr.lt (vals := z.cells.toList) (by simpa using rep_cells hr h3) (fun k x hx => by simpa using hx) (by simpa using h2)
    · simpa using (Rep.ptr (b := w.heap.size) (sz := n) (i := 0) (o := 0) : Rep (w.alloc (.cells z.cells T)) S _ _)
  · exact hv.elim

theorem s_box (h : Sim C env σ w S a.tmps) (hd0 : a.defers = C.ds) (hN : dstOk N o.dst) (hnx : ∀ a w, NX C next a w → nx a w) {T : TypeId} {x : Operand} (ho : o.op = .box T x)
    (hv : vcRes P Qp next o.dst env σ (aBox P T (ev env x))) : o.wp P a w nx Q := by
  unfold aBox at hv
  split at hv
  · rename_i n hn
    obtain ⟨⟨h2, h3⟩, hk⟩ := hv
    have hr := ev_rep h x
    refine step_new h hd0 hN hnx (ob := .cells (a.eval x).cells T) (x := .arr n [ev env x]) (d := .ptr w.heap.size n 0 0) (v := .pointer (some ⟨w.heap.size, 0, none⟩)) ?_ ?_ ?_ (hk _ (not_sdom_size h.store))
    · simp [execOp, ho, Instr.box, newVar, newRow]
    · refine repObj_arr h.fr.lt (vals := (a.eval x).cells.toList) (by simpa using rep_cells hr h3) (fun k x hx => by simpa using hx) (by simpa using h2)
    · simpa using (Rep.ptr (b := w.heap.size) (sz := n) (i := 0) (o := 0) : Rep (w.alloc (.cells (a.eval x).cells T)) S _ _)
  · exact hv.elim

theorem s_makeFunc (h : Sim C env σ w S a.tmps) (hd0 : a.defers = C.ds) (hN : dstOk N o.dst) (hnx : ∀ a w, NX C next a w → nx a w) {fn : Fn} {f c : Array Operand} (ho : o.op = .makeFunc fn f c)
    (hv : vcRes P Qp next o.dst env σ (.val True (.clo fn (f.toList.map (ev env)) (c.toList.map (ev env))))) : o.wp P a w nx Q := by
  refine step_val h hd0 hN hnx (v := .func fn (f.map a.eval) (c.map a.eval)) (by simp [execOp, ho, Instr.makeFunc]) ?_ hv.2
  have := Rep.clo (fn := fn) (ev_reps h f.toList) (ev_reps h c.toList)
  have e1 : ∀ (l : Array Operand), (l.toList.map a.eval).toArray = l.map a.eval := fun l => by apply Array.ext'; simp
  rw [e1, e1] at this
  exact this

theorem s_makeInterface (h : Sim C env σ w S a.tmps) (hd0 : a.defers = C.ds) (hN : dstOk N o.dst) (hnx : ∀ a w, NX C next a w → nx a w) {T : TypeId} {x : Operand} (ho : o.op = .makeInterface T x)
    (hv : vcRes P Qp next o.dst env σ (.val (match P.underlying T with | some (.interface _) => False | some _ => True | none => False) (.ifc T (ev env x)))) : o.wp P a w nx Q := by
  obtain ⟨hp, hk⟩ := hv
  refine step_val h hd0 hN hnx (v := .iface T (a.eval x)) ?_ (.ifc (ev_rep h x)) hk
  cases hd : P.underlying T with
  | none => rw [hd] at hp; exact hp.elim
  | some d =>
    rw [hd] at hp
    have : (Instr.makeInterface T (a.eval x)).run P w = .ok (.iface T (a.eval x)) w := by
      cases d <;> first | exact hp.elim | simp [Instr.makeInterface, run_underlying hd]
    simp [execOp, ho, this]

theorem s_extract (h : Sim C env σ w S a.tmps) (hd0 : a.defers = C.ds) (hN : dstOk N o.dst) (hnx : ∀ a w, NX C next a w → nx a w) {x : Operand} {i : Nat} (ho : o.op = .extract x i)
    (hv : vcRes P Qp next o.dst env σ (aExtract (ev env x) i)) : o.wp P a w nx Q := by
  unfold aExtract at hv
  split at hv
  · rename_i xs hx
    split at hv
    · rename_i d hd
      have hr := ev_rep h x
      rw [hx] at hr
      generalize a.eval x = y at hr
      have : ∃ vals, a.eval x = .tuple vals ∧ ∃ v, vals[i]? = some v ∧ Rep w S d v := by
        have hr := ev_rep h x
        rw [hx] at hr
        generalize a.eval x = y at hr
        cases hr with
        | tup hr =>
          obtain ⟨v, hv, hrep⟩ := hr.get i d hd
          exact ⟨_, rfl, v, by simpa using hv, hrep⟩
      obtain ⟨vals, hy, v, hvi, hrep⟩ := this
      exact step_val h hd0 hN hnx (v := v) (by simp [execOp, ho, hy, Instr.extract, hvi]) hrep hv.2
    · exact hv.elim
  · exact hv.elim

theorem s_unOp (h : Sim C env σ w S a.tmps) (hd0 : a.defers = C.ds) (hN : dstOk N o.dst) (hnx : ∀ a w, NX C next a w → nx a w) {op : UnOp} {T : TypeId} {x : Operand} (ho : o.op = .unOp op T x)
    (hv : vcRes P Qp next o.dst env σ (aUn P op (ev env x))) : o.wp P a w nx Q := by
  unfold aUn at hv
  split at hv
  · rename_i y hy
    obtain ⟨d, v, hrun, hrep, hk⟩ := scal_ok hv w S
    have he := toV_rep hy (ev_rep h x)
    exact step_val h hd0 hN hnx (v := v) (by simp [execOp, ho, he, hrun]) hrep hk
  · exact hv.elim

end steps
end Go.Ab
