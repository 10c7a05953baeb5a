/- The steps of a region: what the abstract machine asks for is what the model does. Part 1: values that need no memory, reading, making. -/
import Derived.Test.YtcpcfglccnmmnaaAbC
set_option linter.unusedSimpArgs false
set_option linter.unusedVariables false
set_option linter.constructorNameAsVariable false
namespace Go.Ab
open Go

def VCall (P : Program) (Qp : D → Store → Prop) (next : Env → Store → Prop) (dst : Option Nat) (env : Env) (σ : Store) (f : FuncId) (args : List D) : Prop :=
  ∃ g, (∀ args w, (callFunc f args).run P w = .ok (.enter g args) w) ∧ ACalls P g args σ fun e σ' => match e with | .ret d => next (eputo dst d env) σ' | .panic d => Qp d σ'

/-- A row that the store does not hold. -/
def Fresh (ob : Option Nat) (σ : Store) : Prop := ∀ c, ob = some c → sget c σ = none

def vcRes (P : Program) (Qp : D → Store → Prop) (next : Env → Store → Prop) (dst : Option Nat) (env : Env) (σ : Store) : ARes → Prop
  | .val pre d => pre ∧ next (eputo dst d env) σ
  | .nd ok f => ∀ t, ok t → next (eputo dst (f t) env) σ
  | .upd pre d σ' => pre ∧ next (eputo dst d env) σ'
  | .new pre o mk => pre ∧ ∀ b, sget b σ = none → next (eputo dst (mk b) env) ((b, o) :: σ)
  | .app pre b sz xs => pre ∧ ∀ ob : Option Nat, (ob = none → xs = []) → Fresh ob (sdelo b σ) → next (eputo dst (.own ob sz xs.length) env) (cellsOf ob sz xs ++ sdelo b σ)
  | .enter f args => VCall P Qp next dst env σ f args
  | .panic d => Qp d σ
  | .bad => False

section base
variable {w : World} {S : Nat → Prop}

theorem purely_run {α : Type} {P : Program} : ∀ (s : Sem α) {r : α}, purely P s = some r → ∀ w, s.run P w = .ok r w
  | .pure a, r, h, w => by simp only [purely, Option.some.injEq] at h; subst h; rfl
  | .program k, r, h, w => by simp only [purely] at h; simp only [Sem.run]; exact purely_run (k P) h w
  | .mark m k, r, h, w => by simp only [purely] at h; simp only [Sem.run]; exact purely_run k h w
  | .load .., r, h, w | .store .., r, h, w | .new .., r, h, w | .shape .., r, h, w | .freeze .., r, h, w | .frozen .., r, h, w | .getObj .., r, h, w | .setObj .., r, h, w
  | .choose .., r, h, w | .sys .., r, h, w | .halt .., r, h, w => by simp [purely] at h

theorem repL_v : ∀ (xs : List Value), xs.all Value.oneCell' = true → RepL w S (xs.map .v) xs
  | [], _ => .nil
  | x :: xs, h => by
    simp only [List.all_cons, Bool.and_eq_true] at h
    exact .cons (.v h.1) (repL_v xs h.2)

theorem rep_ofV {x : Value} (h : okV x = true) : Rep w S (ofV x) x := by
  cases x with
  | agg cs => exact .agg (vals := cs.toList) (repL_v _ h)
  | tuple xs => exact .tup (vals := xs.toList) (repL_v _ h)
  | _ => exact .v rfl

mutual
theorem toV_rep : ∀ {d : D} {x y : Value}, toV d = some x → Rep w S d y → y = x
  | .v z, x, y, h, hr => by simp only [toV, Option.some.injEq] at h; subst h; exact hr.v_inv
  | .agg cs, x, y, h, hr => by
    cases hr with
    | agg hr =>
      simp only [toV, Option.map_eq_some_iff] at h
      obtain ⟨l, hl, rfl⟩ := h
      rw [toVs_rep hl hr]
  | .tup xs, x, y, h, hr => by
    cases hr with
    | tup hr =>
      simp only [toV, Option.map_eq_some_iff] at h
      obtain ⟨l, hl, rfl⟩ := h
      rw [toVs_rep hl hr]
  | .ifc t z, x, y, h, hr => by
    cases hr with
    | ifc hr =>
      simp only [toV, Option.map_eq_some_iff] at h
      obtain ⟨l, hl, rfl⟩ := h
      rw [toV_rep hl hr]
  | .any, x, y, h, hr => by simp [toV] at h
  | .ptr .., x, y, h, hr => by simp [toV] at h
  | .elt .., x, y, h, hr => by simp [toV] at h
  | .slc .., x, y, h, hr => by simp [toV] at h
  | .own .., x, y, h, hr => by simp [toV] at h
  | .map .., x, y, h, hr => by simp [toV] at h
  | .clo .., x, y, h, hr => by simp [toV] at h
theorem toVs_rep : ∀ {ds : List D} {xs ys : List Value}, toVs ds = some xs → RepL w S ds ys → ys = xs
  | [], xs, ys, h, hr => by simp only [toVs, Option.some.injEq] at h; subst h; exact hr.nil_inv
  | d :: ds, xs, ys, h, hr => by
    cases hr with
    | cons hd ht =>
      simp only [toVs, Option.bind_eq_some_iff, Option.map_eq_some_iff] at h
      obtain ⟨x, hx, l, hl, rfl⟩ := h
      rw [toV_rep hx hd, toVs_rep hl ht]
end

end base

section steps
variable {P : Program} {N : Slots} {C : Ctx P N} {env : Env} {σ : Store} {a : Act} {w : World} {S : Nat → Prop} {o : Oper}
variable {Qp : D → Store → Prop} {next : Env → Store → Prop}

theorem ev_rep (h : Sim C env σ w S a.tmps) (x : Operand) : Rep w S (ev env x) (a.eval x) := by
  cases x with
  | tmp t => exact h.env t
  | const v =>
    simp only [ev, Act.eval]
    split
    · rename_i hv; exact rep_ofV hv
    · exact .any
  | global g => exact .v rfl
  | func f => exact .clo .nil .nil

theorem ev_reps (h : Sim C env σ w S a.tmps) : ∀ (xs : List Operand), RepL w S (xs.map (ev env)) (xs.map a.eval)
  | [] => .nil
  | x :: xs => .cons (ev_rep h x) (ev_reps h xs)

theorem sim_ev (h : Sim C env σ w S a.tmps) {w' : World} {S' : Nat → Prop} {σ' : Store} (hf : Fr w S (sdom σ) w' S' σ') : Ev w S w' S' :=
  hf.ev fun b hb => ⟨h.fr.lt b hb, fun hd => by
    cases hs : sget b σ with
    | none => exact hd hs
    | some o => exact (h.store b o hs).1 hb⟩

/-- Where a region goes on. -/
def NX (C : Ctx P N) (next : Env → Store → Prop) (a : Act) (w : World) : Prop :=
  a.defers = C.ds ∧ ∃ env σ S, next env σ ∧ Sim C env σ w S a.tmps

def QX (C : Ctx P N) (K : Env → Store → Prop) (Qp : D → Store → Prop) : Exit → Act → World → Prop
  | .normal, a, w => NX C K a w
  | .panic chain, a, w => a.defers = C.ds ∧ SlotsOk N a.tmps ∧ ∃ d σ S v, chain = [{ v, recovered := false }] ∧ Qp d σ ∧ Rep w S d v ∧ RepStore w S σ ∧ Fr C.w0 C.S0 C.F w S σ
  | _, _, _ => False

def dstOk (N : Slots) (dst : Option Nat) : Prop := ∀ k, dst = some k → k < N.n ∧ ∀ p ∈ N.lk, p.1 ≠ k

theorem sim_put (h : Sim C env σ w S a.tmps) {dst : Option Nat} (hN : dstOk N dst) {w' : World} {S' : Nat → Prop} {σ' : Store} {d : D} {v : Value} (hd : Rep w' S' d v) (hst : RepStore w' S' σ')
    (hf : Fr w S (sdom σ) w' S' σ') : Sim C (eputo dst d env) σ' w' S' (a.put dst v).tmps := by
  have hE := sim_ev h hf
  refine ⟨?_, hst, h.fr.trans hf, ?_⟩
  · cases dst with
    | none => exact h.env.ev hE
    | some k => exact (h.env.ev hE).put hd (by rw [h.size.1]; exact (hN k rfl).1)
  · cases dst with
    | none => exact h.size
    | some k =>
      refine ⟨by simpa [Act.put] using h.size.1, fun p hp => ?_⟩
      have hk := (hN k rfl).2 p hp
      rw [← h.size.2 p hp]
      show (a.tmps.setIfInBounds k v).getD p.1 undef = _
      simp only [Array.getD_eq_getD_getElem?, Array.getElem?_setIfInBounds]
      rw [if_neg (fun h => hk h.symm)]

theorem put_defers (a : Act) (dst : Option Nat) (v : Value) : (a.put dst v).defers = a.defers := by cases dst <;> rfl

/-- A step that ends in a value. -/
theorem step_ok (h : Sim C env σ w S a.tmps) (hd0 : a.defers = C.ds) (hN : dstOk N o.dst) {w' : World} {S' : Nat → Prop} {σ' : Store} {d : D} {v : Value} {nx : Act → World → Prop} {Q : Exit → Act → World → Prop}
    (hnx : ∀ a w, NX C next a w → nx a w) (hrun : (execOp a.eval o).run P w = .ok (.value v) w') (hd : Rep w' S' d v) (hst : RepStore w' S' σ') (hf : Fr w S (sdom σ) w' S' σ')
    (hn : next (eputo o.dst d env) σ') : o.wp P a w nx Q := by
  unfold Oper.wp
  rw [hrun, Oper.upon_value]
  exact hnx _ _ ⟨by rw [put_defers]; exact hd0, _, _, _, hn, sim_put h hN hd hst hf⟩

theorem step_skip_ok (h : Sim C env σ w S a.tmps) (hd0 : a.defers = C.ds) (hN : dstOk N o.dst) {w' : World} {S' : Nat → Prop} {σ' : Store} {nx : Act → World → Prop} {Q : Exit → Act → World → Prop}
    (hnx : ∀ a w, NX C next a w → nx a w) (hrun : (execOp a.eval o).run P w = .ok .skip w') (hst : RepStore w' S' σ') (hf : Fr w S (sdom σ) w' S' σ')
    (hn : next (eputo o.dst (.tup []) env) σ') : o.wp P a w nx Q := by
  unfold Oper.wp
  rw [hrun, Oper.upon_skip]
  exact hnx _ _ ⟨by rw [put_defers]; exact hd0, _, _, _, hn, sim_put h hN (.tup .nil) hst hf⟩

/-- A step that leaves the world alone. -/
theorem step_val (h : Sim C env σ w S a.tmps) (hd0 : a.defers = C.ds) (hN : dstOk N o.dst) {d : D} {v : Value} {nx : Act → World → Prop} {Q : Exit → Act → World → Prop}
    (hnx : ∀ a w, NX C next a w → nx a w) (hrun : (execOp a.eval o).run P w = .ok (.value v) w) (hd : Rep w S d v) (hn : next (eputo o.dst d env) σ) : o.wp P a w nx Q :=
  step_ok h hd0 hN hnx hrun hd h.store (Fr.refl σ h.fr.lt) hn

theorem frozen_new (w : World) (o : Obj) (b : Nat) (hb : b ≠ w.heap.size) : (w.alloc o).heap[b]? = w.heap[b]? := by
  show (w.heap.push o)[b]? = _
  rw [Array.getElem?_push, if_neg hb]

theorem shape_alloc (w : World) (o : Obj) : Shape w (w.alloc o) := by
  intro b c e fr h
  refine ⟨c, fr, ?_, rfl⟩
  rw [frozen_new]
  · exact h
  · intro hb
    have := (Array.getElem?_eq_some_iff.1 h).1
    omega

theorem heap_alloc (w : World) (o : Obj) : (w.alloc o).heap[w.heap.size]? = some o := by
  show (w.heap.push o)[w.heap.size]? = _
  simp

/-- A new object: the frame of it. -/
theorem fr_alloc (h : Sim C env σ w S a.tmps) (ob : Obj) (x : AObj) : Fr w S (sdom σ) (w.alloc ob) S ((w.heap.size, x) :: σ) where
  os := rfl
  tape := rfl
  output := rfl
  size := by simp
  shape := shape_alloc w ob
  block := fun b hb _ => frozen_new w ob b (by omega)
  mono := fun _ h => h
  new := fun _ h => .inl h
  dom := fun b hb => by
    unfold sdom at *
    rw [sget_cons] at hb
    by_cases hbs : b = w.heap.size
    · exact .inr (by omega)
    · rw [if_neg hbs] at hb; exact .inl hb
  lt := fun b hb => by have := h.fr.lt b hb; simp; omega

theorem not_sdom_size (h : RepStore w S σ) : sget w.heap.size σ = none := by
  cases hs : sget w.heap.size σ with
  | none => rfl
  | some o => have := (h _ o hs).2.lt; omega

theorem ev_alloc (h : ∀ b, S b → b < w.heap.size) (ob : Obj) : Ev w S (w.alloc ob) S :=
  ⟨fun _ h => h, fun b hb => frozen_new w ob b (by have := h b hb; omega), shape_alloc w ob⟩

theorem store_alloc (h : RepStore w S σ) (hl : ∀ b, S b → b < w.heap.size) (ob : Obj) (x : AObj) (hx : RepObj (w.alloc ob) S w.heap.size x) : RepStore (w.alloc ob) S ((w.heap.size, x) :: σ) := by
  intro b o hb
  rw [sget_cons] at hb
  by_cases hbs : b = w.heap.size
  · subst hbs
    rw [if_pos rfl] at hb
    cases hb
    exact ⟨fun hS => by have := hl _ hS; omega, hx⟩
  · rw [if_neg hbs] at hb
    obtain ⟨h1, h2⟩ := h b o hb
    exact ⟨h1, h2.ev (ev_alloc hl ob) (frozen_new w ob b hbs)⟩

/-- A step that makes a new object. -/
theorem step_new (h : Sim C env σ w S a.tmps) (hd0 : a.defers = C.ds) (hN : dstOk N o.dst) {ob : Obj} {x : AObj} {d : D} {v : Value} {nx : Act → World → Prop} {Q : Exit → Act → World → Prop}
    (hnx : ∀ a w, NX C next a w → nx a w) (hrun : (execOp a.eval o).run P w = .ok (.value v) (w.alloc ob)) (hx : RepObj (w.alloc ob) S w.heap.size x) (hd : Rep (w.alloc ob) S d v)
    (hn : next (eputo o.dst d env) ((w.heap.size, x) :: σ)) : o.wp P a w nx Q :=
  step_ok h hd0 hN hnx hrun hd (store_alloc h.store h.fr.lt ob x hx) (fr_alloc h ob x) hn

/-- A new row of cells that all read as told. -/
theorem repObj_arr {n : Nat} {xs : List D} {vals : List Value} {e : TypeId} {c : Array Value} (hl : ∀ b, S b → b < w.heap.size) (hr : RepL w S (flat xs) vals) (hc : ∀ (k : Nat) (x : Value), vals[k]? = some x → c[k]? = some x) (hs : ∀ x ∈ xs, x.cells.length = n) :
    RepObj (w.alloc (.cells c e)) S w.heap.size (.arr n xs) :=
  ⟨c, e, 0, 0, vals, heap_alloc w _, hr.ev (ev_alloc hl _), hc, hs, .inl (Nat.le_refl _)⟩

end steps
end Go.Ab
