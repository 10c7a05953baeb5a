/- Deferred calls and recover. -/
import Derived.Test.YtcpcfglccnmmnaaAbS
import Derived.Recover
set_option linter.unusedSimpArgs false
set_option linter.unusedVariables false
set_option linter.constructorNameAsVariable false
namespace Go.Ab
open Go

/-- How a frame runs while its deferred calls run: it returns, or panics with one value (recovered or not). -/
inductive AMode where
  | ret
  | pan (d : D) (rec : Bool)

def RepMode (w : World) (S : Nat → Prop) : AMode → FrameMode → Prop
  | .ret, .returning => True
  | .pan d r, .panicking chain => ∃ v, chain = [{ v, recovered := r }] ∧ Rep w S d v
  | _, _ => False

theorem RepMode.ev {w w' : World} {S S' : Nat → Prop} {u : AMode} {m : FrameMode} (h : RepMode w S u m) (hE : Ev w S w' S') : RepMode w' S' u m := by
  cases u with
  | ret => cases m <;> exact h
  | pan d r =>
    cases m with
    | panicking chain => obtain ⟨v, h1, h2⟩ := h; exact ⟨v, h1, h2.ev hE⟩
    | returning => exact h
    | run => exact h

/-- The contract of a deferred call. -/
def ADCalls (P : Program) (f : FuncId) (args : List D) (u : AMode) (σ : Store) (R : AMode → Store → Prop) : Prop :=
  ∀ (w : World) (S : Nat → Prop) (vs : List Value) (fu : FrameMode), (∀ b, S b → b < w.heap.size) → RepStore w S σ → RepL w S args vs → RepMode w S u fu →
    CallsD P f vs.toArray fu w fun e u' w' => (∃ v, e = .returned v) ∧ ∃ au σ' S', R au σ' ∧ RepMode w' S' au u' ∧ RepStore w' S' σ' ∧ Fr w S (sdom σ) w' S' σ'

def EndOkD (P : Program) (f : FuncId) (w0 : World) (S0 : Nat → Prop) (σ0 : Store) (R : AMode → Store → Prop) (c0 : Frame) (cs : List Frame) (m : Machine) : Prop :=
  ∃ e u' w' fr, ((∃ v, e = .returned v) ∧ ∃ au σ' S', R au σ' ∧ RepMode w' S' au u' ∧ RepStore w' S' σ' ∧ Fr w0 S0 (sdom σ0) w' S' σ') ∧ Comes P m (lone fr ({ c0 with mode := u' } :: cs) w') e ∧ fr.kind = .deferred ∧ fr.going P w' e

def Ctx.callD (P : Program) (N : Slots) (f : FuncId) (w0 : World) (S0 : Nat → Prop) (σ0 : Store) (hS : ∀ b, S0 b → b < w0.heap.size) (hst : RepStore w0 S0 σ0) (R : AMode → Store → Prop) (c0 : Frame) (cs : List Frame) (fu : FrameMode) : Ctx P N where
  b := { (default : Frame) with fn := f, kind := .deferred }
  cs := { c0 with mode := fu } :: cs
  ds := []
  w0 := w0
  S0 := S0
  F := sdom σ0
  Z := EndOkD P f w0 S0 σ0 R c0 cs
  hZ := fun m m' hs ⟨e, u', w', fr, h1, h2, h3⟩ => ⟨e, u', w', fr, h1, Comes.of_steps hs h2, h3⟩
  hS := fun b hb => ⟨hS b hb, fun hd => by
    cases hs : sget b σ0 with
    | none => exact hd hs
    | some o => exact (hst b o hs).1 hb⟩

structure IsCallD {P : Program} {N : Slots} (C : Ctx P N) (f : FuncId) (R : AMode → Store → Prop) (u : AMode) : Prop where
  ex : ∃ w0 S0 σ0 hS hst c0 cs fu, RepMode w0 S0 u fu ∧ C = Ctx.callD P N f w0 S0 σ0 hS hst R c0 cs fu

theorem ADCalls.of_body {P : Program} {f : FuncId} {fn : Func} {c : Code} {N : Nat} {args : List D} {u : AMode} {σ : Store} {R : AMode → Store → Prop} (hf : P.funcs[f]? = some fn) (hb : fn.body = some c) (hN : fn.ntmps = N) (hargs : args.length ≤ N)
    (h : ∀ C : Ctx P ⟨N, []⟩, IsCallD C f R u → Goes C [.code c] (initEnv args) σ) : ADCalls P f args u σ R := by
  intro w S vs fu hS hst hr hu c0 cs hm
  have hC := h (Ctx.callD P ⟨N, []⟩ f w S σ hS hst R c0 cs fu) ⟨_, _, _, _, _, _, _, _, hu, rfl⟩
  have hlen := hr.length
  have hsim : Sim (Ctx.callD P ⟨N, []⟩ f w S σ hS hst R c0 cs fu) (initEnv args) σ w S (vs.toArray ++ Array.replicate (fn.ntmps - vs.toArray.size) undef) := by
    refine ⟨fun k => ?_, hst, Fr.refl σ hS, by simp; omega, fun p hp => by simp at hp⟩
    rw [eget_initEnv]
    by_cases hk : k < args.length
    · rw [getD_lt _ _ _ hk]
      obtain ⟨v, hv, hrep⟩ := hr.get k args[k] (by simp)
      have hkv : k < vs.length := by omega
      rw [Array.getD_eq_getD_getElem?, Array.getElem?_append_left (by simpa using hkv)]
      simp only [List.getElem?_toArray, hv, Option.getD_some]
      exact hrep
    · rw [List.getD_eq_getElem?_getD, List.getElem?_eq_none (by omega)]
      exact .any
  have hz := hC { tmps := vs.toArray ++ Array.replicate (fn.ntmps - vs.toArray.size) undef, defers := [] } w S rfl hsim
  have henter : Frame.enter P f vs.toArray .deferred = ({ (default : Frame) with fn := f, kind := .deferred } : Frame).at { tmps := vs.toArray ++ Array.replicate (fn.ntmps - vs.toArray.size) undef, defers := [] } [.code c] := by
    simp [Frame.enter, Frame.at, hf, hb]
  rw [henter]
  obtain ⟨e, u', w', fr, h1, hcomes, hk, hl⟩ := hz
  have hc0 : ({ c0 with mode := fu } : Frame) = c0 := by subst hm; rfl
  have hcomes' : Comes P (lone (({ (default : Frame) with fn := f, kind := .deferred } : Frame).at { tmps := vs.toArray ++ Array.replicate (fn.ntmps - vs.toArray.size) undef, defers := [] } [.code c]) (({ c0 with mode := fu } : Frame) :: cs) w) (lone fr ({ c0 with mode := u' } :: cs) w') e := hcomes
  rw [hc0] at hcomes'
  exact ⟨e, u', w', fr, h1, hcomes', hk, hl⟩

section
variable {P : Program} {N : Slots} {C : Ctx P N} {k : List Item} {env : Env} {σ : Store} {f : FuncId} {fn : Func} {R : AMode → Store → Prop} {u : AMode}

theorem Goes.doneD (hC : IsCallD C f R u) (hf : P.funcs[f]? = some fn) (hres : fn.results.toList = []) (hR : R u σ) : Goes C [] env σ := by
  obtain ⟨w0, S0, σ0, hS, hst, c0, cs, fu, hu, rfl⟩ := hC.ex
  intro a w S hd hs
  obtain ⟨v, hrun, hrep⟩ := results_ok (P := P) (fn := fn) hs.env hs.store (by rw [hres]; simp)
  have hE := hs.fr.ev (Ctx.callD P N f w0 S0 σ0 hS hst R c0 cs fu).hS
  exact ⟨.returned v, fu, w, _, ⟨⟨v, rfl⟩, u, σ, S, hR, hu.ev hE, hs.store, hs.fr⟩, .one step_end, rfl, rfl, hd, fn, hf, hrun⟩

theorem Goes.retD (hC : IsCallD C f R u) (hf : P.funcs[f]? = some fn) (hres : fn.results.toList = []) (hR : R u σ) : Goes C (.code .ret :: k) env σ := by
  obtain ⟨w0, S0, σ0, hS, hst, c0, cs, fu, hu, rfl⟩ := hC.ex
  intro a w S hd hs
  obtain ⟨v, hrun, hrep⟩ := results_ok (P := P) (fn := fn) hs.env hs.store (by rw [hres]; simp)
  have hE := hs.fr.ev (Ctx.callD P N f w0 S0 σ0 hS hst R c0 cs fu).hS
  exact ⟨.returned v, fu, w, _, ⟨⟨v, rfl⟩, u, σ, S, hR, hu.ev hE, hs.store, hs.fr⟩, .one step_ret, rfl, rfl, hd, fn, hf, hrun⟩

theorem recover_steps {b : Frame} {a : Act} {cs cs' : List Frame} {w : World} {id : Nat} {o0 o1 : Oper} {k1 k2 : Nat} {v : Value} (hk : b.kind = .deferred) (hr : b.roundOf = none)
    (h0 : o0.op = .call { callee := .builtin .recover, args := #[], argTypes := #[] }) (h0d : o0.dst = some k1) (h0g : o0.guard = none)
    (h1 : o1.op = .assign (.tmp k1)) (h1d : o1.dst = some k2) (h1g : o1.guard = none) (hkn : k1 < a.tmps.size)
    (hrec : recoverD cs = some (v, cs') ∨ (recoverD cs = none ∧ v = .nilIface ∧ cs' = cs)) :
    Steps P (lone (b.at a (.code (.region id #[o0, o1] false) :: k)) cs w) (lone (b.at ((a.put (some k1) v).put (some k2) v) k) cs' w) := by
  have hw0 : ∀ t, Region.wanted o0 (yielded #[o0, o1] t) = true := fun t => by simp [Region.wanted, h0g]
  have hw1 : ∀ t, Region.wanted o1 (yielded #[o0, o1] t) = true := fun t => by simp [Region.wanted, h1g]
  have hrun0 : (execOp a.eval o0).run P w = .ok .recover w := by
    simp [execOp, h0, resolve, invoke, builtin]
  have hput : ∀ v, (a.put (some k1) v).eval (.tmp k1) = v := fun v => by
    show (a.tmps.setIfInBounds k1 v).getD k1 undef = v
    simp [Array.getD, hkn]
  have hrun1 : ∀ v, (execOp (a.put (some k1) v).eval o1).run P w = .ok (.value v) w := fun v => by
    simp only [execOp, h1, hput]; rfl
  have key : ∀ cs', (recoverD cs = some (v, cs') ∨ (recoverD cs = none ∧ v = .nilIface ∧ cs' = cs)) → wpOpsS P #[o0, o1] (fun e a' cs2 w2 => e = .normal ∧ a' = (a.put (some k1) v).put (some k2) v ∧ cs2 = cs' ∧ w2 = w) (List.range 2) a cs w := by
    intro cs' hrec
    rw [show List.range 2 = [0, 1] from rfl]
    simp only [wpOpsS, show (#[o0, o1] : Array Oper)[0]? = some o0 from rfl, show (#[o0, o1] : Array Oper)[1]? = some o1 from rfl, hw0, hw1, if_true, hrun0]
    rcases hrec with hrec2 | ⟨hrec2, rfl, rfl⟩
    · simp only [hrec2, h0d, hrun1, Oper.upon_value, h1d]
      exact ⟨trivial, trivial, trivial, trivial⟩
    · rw [hrec2]
      simp only [h0d, hrun1, Oper.upon_value, h1d]
      exact ⟨trivial, trivial, trivial, trivial⟩
  obtain ⟨e, a', cs2, w2, ⟨rfl, rfl, rfl, rfl⟩, harr⟩ := wpS_region (id := id) (key cs' hrec) b k hk hr
  exact harr

theorem Sim.puts2 {a : Act} {w : World} {S : Nat → Prop} {d : D} {v : Value} {k1 k2 : Nat} (hs : Sim C env σ w S a.tmps) (hd : Rep w S d v) (h1 : dstOk N (some k1)) (h2 : dstOk N (some k2)) :
    Sim C (eput k2 d (eput k1 d env)) σ w S ((a.put (some k1) v).put (some k2) v).tmps :=
  sim_put (a := a.put (some k1) v) (dst := some k2) (sim_put hs (dst := some k1) h1 hd hs.store (Fr.refl σ hs.fr.lt)) h2 hd hs.store (Fr.refl σ hs.fr.lt)

/-- recover, of a frame that panics. -/
theorem Goes.recoverPan {d : D} {id : Nat} {o0 o1 : Oper} {k1 k2 : Nat} (hC : IsCallD C f R (.pan d false))
    (h0 : o0.op = .call { callee := .builtin .recover, args := #[], argTypes := #[] }) (h0d : o0.dst = some k1) (h0g : o0.guard = none)
    (h1 : o1.op = .assign (.tmp k1)) (h1d : o1.dst = some k2) (h1g : o1.guard = none) (hk1 : dstB N (some k1)) (hk2 : dstB N (some k2))
    (h : ∀ C' : Ctx P N, IsCallD C' f R (.pan d true) → Goes C' k (eput k2 d (eput k1 d env)) σ) : Goes C (.code (.region id #[o0, o1] false) :: k) env σ := by
  obtain ⟨w0, S0, σ0, hS, hst, c0, cs, fu, hu, rfl⟩ := hC.ex
  intro a w S hd hs
  have hE := hs.fr.ev (Ctx.callD P N f w0 S0 σ0 hS hst R c0 cs fu).hS
  cases fu with
  | run => exact hu.elim
  | returning => exact hu.elim
  | panicking chain =>
    obtain ⟨v, rfl, hv⟩ := hu
    have hst' := recover_steps (P := P) (b := { (default : Frame) with fn := f, kind := .deferred }) (a := a) (k := k) (w := w) (id := id) (cs := ({ c0 with mode := .panicking [{ v, recovered := false }] } : Frame) :: cs) (cs' := ({ c0 with mode := .panicking [{ v, recovered := true }] } : Frame) :: cs) (v := v) rfl rfl h0 h0d h0g h1 h1d h1g (by rw [hs.size.1]; exact (dstB_ok hk1 k1 rfl).1) (.inl rfl)
    have hg := h (Ctx.callD P N f w0 S0 σ0 hS hst R c0 cs (.panicking [{ v, recovered := true }])) ⟨w0, S0, σ0, hS, hst, c0, cs, .panicking [{ v, recovered := true }], ⟨v, rfl, hv⟩, rfl⟩
    have h2 := Sim.puts2 hs (hv.ev hE) (dstB_ok hk1) (dstB_ok hk2)
    have hz := hg ((a.put (some k1) v).put (some k2) v) w S (by rw [put_defers, put_defers]; exact hd) ⟨h2.env, h2.store, h2.fr, h2.size⟩
    exact (Ctx.callD P N f w0 S0 σ0 hS hst R c0 cs (.panicking [{ v, recovered := false }])).hZ _ _ hst' hz

/-- recover, of a frame that returns. -/
theorem Goes.recoverRet {id : Nat} {o0 o1 : Oper} {k1 k2 : Nat} (hC : IsCallD C f R .ret)
    (h0 : o0.op = .call { callee := .builtin .recover, args := #[], argTypes := #[] }) (h0d : o0.dst = some k1) (h0g : o0.guard = none)
    (h1 : o1.op = .assign (.tmp k1)) (h1d : o1.dst = some k2) (h1g : o1.guard = none) (hk1 : dstB N (some k1)) (hk2 : dstB N (some k2))
    (h : Goes C k (eput k2 (.v .nilIface) (eput k1 (.v .nilIface) env)) σ) : Goes C (.code (.region id #[o0, o1] false) :: k) env σ := by
  obtain ⟨w0, S0, σ0, hS, hst, c0, cs, fu, hu, rfl⟩ := hC.ex
  intro a w S hd hs
  cases fu with
  | run => exact hu.elim
  | panicking chain => exact hu.elim
  | returning =>
    have hst' := recover_steps (P := P) (b := { (default : Frame) with fn := f, kind := .deferred }) (a := a) (k := k) (w := w) (id := id) (cs := ({ c0 with mode := .returning } : Frame) :: cs) (cs' := ({ c0 with mode := .returning } : Frame) :: cs) (v := .nilIface) rfl rfl h0 h0d h0g h1 h1d h1g (by rw [hs.size.1]; exact (dstB_ok hk1 k1 rfl).1) (.inr ⟨rfl, rfl, rfl⟩)
    have h2 := Sim.puts2 hs (d := .v .nilIface) (v := .nilIface) (.v rfl) (dstB_ok hk1) (dstB_ok hk2)
    have hz := h ((a.put (some k1) .nilIface).put (some k2) .nilIface) w S (by rw [put_defers, put_defers]; exact hd) h2
    exact (Ctx.callD P N f w0 S0 σ0 hS hst R c0 cs .returning).hZ _ _ hst' hz

end

/-! A frame with one deferred call of a closure over pointers. -/

def ptrV : D → Value
  | .ptr b sz i o => .pointer (some ⟨b, i * sz + o, none⟩)
  | _ => undef
def isPtr : D → Bool
  | .ptr _ _ _ _ => true
  | _ => false
theorem ptrV_rep {w : World} {S : Nat → Prop} {d : D} (h : isPtr d = true) : Rep w S d (ptrV d) := by
  cases d <;> simp [isPtr] at h
  exact .ptr
theorem ptrV_inv {w : World} {S : Nat → Prop} {d : D} {v : Value} (h : isPtr d = true) (hr : Rep w S d v) : v = ptrV d := by
  cases d <;> simp [isPtr] at h
  cases hr; rfl
theorem ptrVs_rep {w : World} {S : Nat → Prop} : ∀ {ds : List D}, ds.all isPtr = true → RepL w S ds (ds.map ptrV)
  | [], _ => .nil
  | d :: ds, h => by
    simp only [List.all_cons, Bool.and_eq_true] at h
    exact .cons (ptrV_rep h.1) (ptrVs_rep h.2)

def lkOf (L : Env) : List (Nat × Value) := L.map fun p => (p.1, ptrV p.2)
attribute [go_sem] lkOf D.agg.injEq exists_eq'

def defOf (fd : FuncId) (caps : List D) : Deferred := { target := .fn (.func fd) (caps.map ptrV).toArray, args := #[] }

def Ctx.callL (P : Program) (N : Slots) (f : FuncId) (w0 : World) (S0 : Nat → Prop) (σ0 : Store) (hS : ∀ b, S0 b → b < w0.heap.size) (hst : RepStore w0 S0 σ0) (R : AEnd → Store → Prop) (cs : List Frame) (dv : Deferred) : Ctx P N :=
  { b := { (default : Frame) with fn := f, kind := .normal }
    cs := cs
    ds := [dv]
    w0 := w0
    S0 := S0
    F := sdom σ0
    Z := EndOk P f w0 S0 σ0 R cs
    hZ := fun m m' hs ⟨e, w', fr, h1, h2, h3⟩ => ⟨e, w', fr, h1, Comes.of_steps hs h2, h3⟩
    hS := fun b hb => ⟨hS b hb, fun hd => by
      cases hs : sget b σ0 with
      | none => exact hd hs
      | some o => exact (hst b o hs).1 hb⟩ }

structure IsCallL {P : Program} {n : Nat} {L : Env} (C : Ctx P ⟨n, lkOf L⟩) (f : FuncId) (R : AEnd → Store → Prop) (fd : FuncId) (caps : List D) : Prop where
  ex : ∃ w0 S0 σ0 hS hst cs, C = Ctx.callL P ⟨n, lkOf L⟩ f w0 S0 σ0 hS hst R cs (defOf fd caps)
  caps : caps.all isPtr = true
  locked : L.all (fun p => isPtr p.2) = true
  entry : ∀ args w, (callFunc fd args).run P w = .ok (.enter fd args) w

section
variable {P : Program} {n : Nat} {L : Env} {k : List Item} {env : Env} {σ : Store} {f fd : FuncId} {fn : Func} {R : AEnd → Store → Prop} {caps : List D}

theorem Goes.defer {C : Ctx P ⟨n, []⟩} (L : Env) {id : Nat} {o0 o1 : Oper} {k1 : Nat} {cs : Array Operand} {ts : Array TypeId} (hC : IsCall C f R) (he : ∀ args w, (callFunc fd args).run P w = .ok (.enter fd args) w)
    (h0 : o0.op = .makeFunc (.func fd) #[] cs) (h0d : o0.dst = some k1) (h0g : o0.guard = none)
    (h1 : o1.op = .defer { callee := .value (.tmp k1), args := #[], argTypes := ts }) (h1d : o1.dst = none) (h1g : o1.guard = none) (hk1 : k1 < n)
    (hcaps : (cs.toList.map (ev env)).all isPtr = true) (hL : L.all (fun p => isPtr p.2) = true) (hLe : ∀ p ∈ L, eget p.1 env = p.2) (hLk : ∀ p ∈ L, p.1 ≠ k1)
    (h : ∀ C' : Ctx P ⟨n, lkOf L⟩, IsCallL C' f R fd (cs.toList.map (ev env)) → Goes C' k (eput k1 .any env) σ) : Goes C (.code (.region id #[o0, o1] false) :: k) env σ := by
  obtain ⟨w0, S0, σ0, hS, hst, cs0, rfl⟩ := hC.ex
  intro a w S hd hs
  have hcv : (cs.map a.eval).toList = (cs.toList.map (ev env)).map ptrV := by
    have hr := ev_reps hs cs.toList
    have : ∀ {ds : List D} {vs : List Value}, RepL w S ds vs → ds.all isPtr = true → vs = ds.map ptrV := by
      intro ds
      induction ds with
      | nil => intro vs h _; rw [h.nil_inv]; rfl
      | cons d ds ih =>
        intro vs h hp
        simp only [List.all_cons, Bool.and_eq_true] at hp
        obtain ⟨x, xs, rfl, h1, h2⟩ := h.cons_inv
        rw [ptrV_inv hp.1 h1, ih h2 hp.2]; rfl
    rw [Array.toList_map]
    exact this hr hcaps
  have hrun0 : (execOp a.eval o0).run P w = .ok (.value (.func (.func fd) #[] (cs.map a.eval))) w := by
    simp [execOp, h0, Instr.makeFunc]
  let a1 := a.put (some k1) (.func (.func fd) #[] (cs.map a.eval))
  have hev1 : a1.eval (.tmp k1) = .func (.func fd) #[] (cs.map a.eval) := by
    show (a.tmps.setIfInBounds k1 _).getD k1 undef = _
    simp [Array.getD, hs.size.1, hk1]
  have hdef : ({ target := .fn (.func fd) (cs.map a.eval), args := #[] } : Deferred) = defOf fd (cs.toList.map (ev env)) := by
    unfold defOf
    congr 2
    rw [← hcv]
  have hrun1 : (execOp a1.eval o1).run P w = .ok (.defer (defOf fd (cs.toList.map (ev env)))) w := by
    rw [← hdef]
    simp only [execOp, h1, resolve, hev1, Deferred.ofValue]
    simp
  have hw0 : ∀ t, Region.wanted o0 (yielded #[o0, o1] t) = true := fun t => by simp [Region.wanted, h0g]
  have hw1 : ∀ t, Region.wanted o1 (yielded #[o0, o1] t) = true := fun t => by simp [Region.wanted, h1g]
  have hwp : wpOps P #[o0, o1] (fun e a' w' => e = .normal ∧ a' = { a1 with defers := defOf fd (cs.toList.map (ev env)) :: a1.defers } ∧ w' = w) (List.range (#[o0, o1] : Array Oper).size) a w := by
    rw [show List.range (#[o0, o1] : Array Oper).size = [0, 1] from rfl]
    simp only [wpOps, show (#[o0, o1] : Array Oper)[0]? = some o0 from rfl, show (#[o0, o1] : Array Oper)[1]? = some o1 from rfl, hw0, hw1, if_true]
    refine .inl ?_
    unfold Oper.wp
    rw [hrun0, Oper.upon_value, h0d]
    refine .inl ?_
    rw [hrun1, Oper.upon_defer, h1d]
    exact ⟨trivial, rfl, rfl⟩
  obtain ⟨e, a', w', ⟨rfl, rfl, rfl⟩, harr⟩ := wp_region (id := id) hwp { (default : Frame) with fn := f, kind := .normal } k cs0
  let C' : Ctx P ⟨n, lkOf L⟩ := Ctx.callL P ⟨n, lkOf L⟩ f w0 S0 σ0 hS hst R cs0 (defOf fd (cs.toList.map (ev env)))
  have hg := h C' ⟨⟨_, _, _, hS, hst, _, rfl⟩, hcaps, hL, he⟩
  have hlock : ∀ p ∈ lkOf L, a1.tmps.getD p.1 undef = p.2 := by
    intro p hp
    obtain ⟨q, hq, rfl⟩ := List.mem_map.1 hp
    have h2 := hs.env q.1
    rw [hLe q hq] at h2
    have h3 := ptrV_inv (by simpa using List.all_eq_true.1 hL q hq) h2
    show (a.tmps.setIfInBounds k1 _).getD q.1 undef = _
    simp only [Array.getD_eq_getD_getElem?, Array.getElem?_setIfInBounds]
    rw [if_neg (fun h => hLk q hq h.symm), ← Array.getD_eq_getD_getElem?, h3]
  have hz := hg { a1 with defers := defOf fd (cs.toList.map (ev env)) :: a1.defers } w' S (by
      show defOf _ _ :: (a.put (some k1) _).defers = [defOf fd (cs.toList.map (ev env))]
      rw [put_defers, show a.defers = [] from hd]) ⟨fun j => ?_, hs.store, hs.fr, by
      show (a.tmps.setIfInBounds k1 _).size = n
      simpa using hs.size.1, hlock⟩
  · exact (Ctx.call P ⟨n, []⟩ f w0 S0 σ0 hS hst R cs0).hZ _ _ harr hz
  · rw [eget_eput]
    split
    · exact .any
    · rename_i hj
      have h2 := hs.env j
      have h3 : a1.tmps.getD j undef = a.tmps.getD j undef := by
        show (a.tmps.setIfInBounds k1 _).getD j undef = _
        simp only [Array.getD_eq_getD_getElem?, Array.getElem?_setIfInBounds]
        rw [if_neg (fun h => hj h.symm)]
      show Rep _ _ _ (a1.tmps.getD j undef)
      rw [h3]; exact h2

/-- What is to be shown behind the deferred call. -/
def AfterD (P : Program) (fn : Func) (L : Env) (R : AEnd → Store → Prop) (u : AMode) (σ : Store) : Prop :=
  match u with
  | .ret | .pan _ true => (∀ r ∈ fn.results.toList, resPre P L σ r) ∧ R (.ret (resD P L σ fn.results.toList)) σ
  | .pan d false => R (.panic d) σ

theorem end_ofL {m : Machine} {w0 : World} {S0 : Nat → Prop} {σ0 : Store} {cs : List Frame} {a : Act} {todo : List Item} {w : World} {S : Nat → Prop} {u : AMode} {fu : FrameMode} (hf : P.funcs[f]? = some fn) (hd : a.defers = [defOf fd caps])
    (hS0 : ∀ b, S0 b → b < w0.heap.size ∧ ¬ sdom σ0 b) (hcaps : caps.all isPtr = true) (hlock : L.all (fun p => isPtr p.2) = true) (he : ∀ args w, (callFunc fd args).run P w = .ok (.enter fd args) w)
    (hsz : SlotsOk ⟨n, lkOf L⟩ a.tmps) (hst : RepStore w S σ) (hfr : Fr w0 S0 (sdom σ0) w S σ) (hu : RepMode w S u fu) (hR : ADCalls P fd caps u σ (AfterD P fn L R))
    (hs : Steps P m (lone { ({ (default : Frame) with fn := f, kind := .normal } : Frame).at a todo with mode := fu } cs w)) : EndOk P f w0 S0 σ0 R cs m := by
  have henv : ∀ (w : World) (S : Nat → Prop), RepEnv w S L a.tmps := by
    intro w S k
    by_cases hk : ∃ d, (k, d) ∈ L ∧ eget k L = d
    · obtain ⟨d, hm, hd⟩ := hk
      have h1 := hsz.2 (k, ptrV d) (List.mem_map.2 ⟨(k, d), hm, rfl⟩)
      rw [hd]
      show Rep w S d (a.tmps.getD k undef)
      rw [show a.tmps.getD k undef = ptrV d from h1]
      exact ptrV_rep (by simpa using List.all_eq_true.1 hlock (k, d) hm)
    · have : eget k L = .any := by
        clear hsz hlock hR
        induction L with
        | nil => rfl
        | cons p r ih =>
          obtain ⟨j, x⟩ := p
          by_cases hkj : k = j
          · subst hkj
            exact absurd ⟨x, by simp, by simp [eget]⟩ hk
          · rw [eget, if_neg hkj]
            refine ih fun ⟨d, h1, h2⟩ => hk ⟨d, by simp [h1], by rw [eget, if_neg hkj]; exact h2⟩
      rw [this]; exact .any
  have hne : fu ≠ .run := by cases u <;> cases fu <;> simp_all [RepMode]
  have hcall := hR w S (caps.map ptrV) fu hfr.lt hst (ptrVs_rep hcaps) hu
  have hl : Leaves P fn a.tmps (fun e w' => ∃ ae σ' S', R ae σ' ∧ RepEnd w' S' ae e ∧ RepStore w' S' σ' ∧ Fr w0 S0 (sdom σ0) w' S' σ') [defOf fd caps] fu w := by
    refine ⟨hne, .func fd, _, fd, (caps.map ptrV).toArray, rfl, ?_, hcall.mono ?_⟩
    · show (invoke (.fn (.func fd) (caps.map ptrV).toArray) #[]).run P w = _
      simp only [invoke, Array.empty_append]
      exact he _ _
    · rintro e u' w' ⟨⟨v, rfl⟩, au, σ', S', hA, hm, hst', hfr'⟩
      have hfr2 := hfr.trans hfr'
      cases au with
      | ret =>
        obtain ⟨hres, hret⟩ := hA
        cases u' with
        | run => exact hm.elim
        | panicking c => exact hm.elim
        | returning =>
          obtain ⟨v2, hrun, hrep⟩ := results_ok (fn := fn) (henv w' S') hst' hres
          exact ⟨v2, hrun, _, σ', S', hret, hrep, hst', hfr2⟩
      | pan d r =>
        cases u' with
        | run => exact hm.elim
        | returning => exact hm.elim
        | panicking c =>
          obtain ⟨x, rfl, hx⟩ := hm
          cases r with
          | true =>
            obtain ⟨hres, hret⟩ := hA
            obtain ⟨v2, hrun, hrep⟩ := results_ok (fn := fn) (henv w' S') hst' hres
            exact ⟨v2, hrun, _, σ', S', hret, hrep, hst', hfr2⟩
          | false => exact ⟨_, σ', S', hA, ⟨x, rfl, hx⟩, hst', hfr2⟩
  obtain ⟨e, w', fr', hR', hcomes, hfn, hleave⟩ := leaves_steps (cs := cs) [defOf fd caps] fu w { ({ (default : Frame) with fn := f, kind := .normal } : Frame).at a todo with mode := fu } rfl hd rfl hf rfl hl
  exact ⟨e, w', fr', hR', Comes.of_steps hs hcomes, hfn, hleave⟩

variable {C : Ctx P ⟨n, lkOf L⟩}

theorem Goes.retL (hC : IsCallL C f R fd caps) (hf : P.funcs[f]? = some fn) (hR : ADCalls P fd caps .ret σ (AfterD P fn L R)) : Goes C (.code .ret :: k) env σ := by
  obtain ⟨⟨w0, S0, σ0, hS, hst, cs, rfl⟩, hcaps, hlock, he⟩ := hC
  intro a w S hd hs
  exact end_ofL hf hd (Ctx.callL P ⟨n, lkOf L⟩ f w0 S0 σ0 hS hst R cs (defOf fd caps)).hS hcaps hlock he hs.size hs.store hs.fr (u := .ret) (fu := .returning) trivial hR (.one step_ret)

theorem Goes.doneL (hC : IsCallL C f R fd caps) (hf : P.funcs[f]? = some fn) (hR : ADCalls P fd caps .ret σ (AfterD P fn L R)) : Goes C [] env σ := by
  obtain ⟨⟨w0, S0, σ0, hS, hst, cs, rfl⟩, hcaps, hlock, he⟩ := hC
  intro a w S hd hs
  exact end_ofL hf hd (Ctx.callL P ⟨n, lkOf L⟩ f w0 S0 σ0 hS hst R cs (defOf fd caps)).hS hcaps hlock he hs.size hs.store hs.fr (u := .ret) (fu := .returning) trivial hR (.one step_end)

theorem Pan.ofL (hC : IsCallL C f R fd caps) (hf : P.funcs[f]? = some fn) {d : D} (hR : ADCalls P fd caps (.pan d false) σ (AfterD P fn L R)) : Pan C d σ := by
  obtain ⟨⟨w0, S0, σ0, hS, hst, cs, rfl⟩, hcaps, hlock, he⟩ := hC
  intro a todo w S v hd hv hst' hfr hsz
  exact end_ofL hf hd (Ctx.callL P ⟨n, lkOf L⟩ f w0 S0 σ0 hS hst R cs (defOf fd caps)).hS hcaps hlock he hsz hst' hfr (u := .pan d false) (fu := .panicking [{ v, recovered := false }]) ⟨v, rfl, hv⟩ hR (Steps.refl P _)

end
end Go.Ab
namespace Go.Ab
theorem Pan.le {P : Program} {N : Slots} {C : Ctx P N} {d : D} {σ σ' : Store} (h : Pan C d σ') (hs : SLe σ' σ) : Pan C d σ :=
  fun a todo w S v hd hv hst hfr hsz => h a todo w S v hd hv (hst.le hs) (hfr.le hs) hsz
/-- What stands behind a piece of code is shown apart from it. -/
theorem Goes.join {P : Program} {N : Slots} {C : Ctx P N} {x : Code} {k : List Item} {env : Env} {σ : Store} (I : Env → Store → Prop) (h1 : ∀ k' : List Item, (∀ env σ, I env σ → Goes C k' env σ) → Goes C (.code x :: k') env σ)
    (h2 : ∀ env σ, I env σ → Goes C k env σ) : Goes C (.code x :: k) env σ := h1 k h2
end Go.Ab
