/- A part of a proof about the given program: the abstract machine, what functions compute, laid in few texts. -/
import Derived.Test.YticjnnmnjfpopaaGreatDoorKTc
import Derived.RangeFuncLeaves
import Derived.WalkKit
import Derived.Shelf.Strings.Builder1
import Derived.Shelf.Strings.Builder2
import Derived.Shelf.Strings.OnBuilder
import Derived.Shelf.Small.Utf8
import Derived.Shelf.Small.Bits
import Derived.Shelf.Small.Strs
import Derived.Shelf.Small.Wraps
import Derived.Shelf.Strings.BuilderF
import Derived.Shelf.Strconv.Itoa0
import Derived.Shelf.Strings.Search1
import Derived.Shelf.Strings.Search2
import Derived.Shelf.Strings.Search3
import Derived.Shelf.LaysM
import Derived.Shelf.Strings.Shaped
import Derived.Shelf.Sort.Plain
import Derived.Shelf.GgClosure.StringsIndexFunc
import Derived.Ground.GgwProg
import Derived.Shelf.GgClosure.StringsIndexFuncTop
import Derived.Shelf.Strings.Prefix
import Derived.Shelf.Strings.Runes
import Derived.Shelf.Bits.Mul64
import Derived.Shelf.Strings.Repeat
import Derived.Shelf.Unicode.DecodeSlow
import Derived.Shelf.Strings.FieldsFuncAny
import Derived.Ground.SlgnProg
import Derived.Shelf.SlicesG.CompactS
import Derived.Ground.SlgmProg
import Derived.Shelf.SortM.SortNone
import Derived.Test.YticjnnmnjfpopaaGreatDoorProg
import Derived.Laws.AppendOwn
set_option linter.unusedSimpArgs false
set_option linter.unusedVariables false
set_option linter.constructorNameAsVariable false
namespace Go.Ab
open Go
variable {P : Program}
def parEnv : List Nat → List D → Env → Env
  | k :: ks, d :: ds, env => parEnv ks ds (eput k d env)
  | _, _, env => env
theorem parEnv_rep {w : World} {S : Nat → Prop} : ∀ (ps : List Nat) (ds : List D) (vs : List Value) (env : Env) (tmps : Array Value), RepL w S ds vs → RepEnv w S env tmps → (∀ p ∈ ps, p < tmps.size) →
    RepEnv w S (parEnv ps ds env) ((ps.zip vs).foldl (fun t (p : Nat × Value) => t.setIfInBounds p.1 p.2) tmps) ∧ ((ps.zip vs).foldl (fun t (p : Nat × Value) => t.setIfInBounds p.1 p.2) tmps).size = tmps.size
  | [], ds, vs, env, tmps, _, h, _ => by simp [parEnv]; exact h
  | p :: ps, [], vs, env, tmps, hr, h, _ => by rw [hr.nil_inv]; simp [parEnv]; exact h
  | p :: ps, d :: ds, vs, env, tmps, hr, h, hp => by
    obtain ⟨x, xs, rfl, h1, h2⟩ := hr.cons_inv
    have := parEnv_rep ps ds xs (eput p d env) (tmps.setIfInBounds p x) h2 (h.put h1 (hp p (by simp))) (fun q hq => by simpa using hp q (by simp [hq]))
    simpa [parEnv] using this
def RoundsTo (P : Program) (l : Nat) (vs : List Value) (w : World) (R : Ending → World → Prop) : Prop :=
  ∃ lp : Loop, w.heap[l]? = some (.loop lp) ∧ vs.length = lp.params.size ∧ ∀ (c : Frame) (cs : List Frame), ∃ e w', R e w' ∧
    match e with
    | .returned v => Steps P (lone (Frame.round l lp.fn ((lp.params.zip vs.toArray).foldl (fun tmps (t, a) => tmps.setIfInBounds t a) lp.tmps) lp.assign lp.body .normal) (c :: cs) w) (lone (c.finish v) cs w')
    | .panicked chain => Steps P (lone (Frame.round l lp.fn ((lp.params.zip vs.toArray).foldl (fun tmps (t, a) => tmps.setIfInBounds t a) lp.tmps) lp.assign lp.body .normal) (c :: cs) w) (lone (c.raise chain) cs w')
    | .outgrown => False
def AYields (P : Program) (l : Nat) (args : List D) (σ : Store) (R : AEnd → Store → Prop) : Prop :=
  ∀ (w : World) (S : Nat → Prop) (vs : List Value), SOk w S → RepStore w S σ → RepL w S args vs →
    RoundsTo P l vs w fun e w' => ∃ ae σ' S', R ae σ' ∧ RepEnd w' S' ae e ∧ RepStore w' S' σ' ∧ Fr w S (sdom σ) w' S' σ'
theorem AYields.mono {l : Nat} {args : List D} {σ : Store} {R R' : AEnd → Store → Prop} (h : AYields P l args σ R) (hr : ∀ e σ', R e σ' → R' e σ') : AYields P l args σ R' := fun w S vs h1 h2 h3 => by
  obtain ⟨lp, hl, hn, hgo⟩ := h w S vs h1 h2 h3
  refine ⟨lp, hl, hn, fun c cs => ?_⟩
  obtain ⟨e, w', ⟨ae, σ', S', hR, r⟩, hs⟩ := hgo c cs
  exact ⟨e, w', ⟨ae, σ', S', hr _ _ hR, r⟩, hs⟩
def RoundOk (P : Program) (l : Nat) (w0 : World) (S0 : Nat → Prop) (σ0 : Store) (R : AEnd → Store → Prop) (c : Frame) (cs : List Frame) (m : Machine) : Prop :=
  ∃ e w', (∃ ae σ' S', R ae σ' ∧ RepEnd w' S' ae e ∧ RepStore w' S' σ' ∧ Fr w0 S0 (sdom σ0) w' S' σ') ∧
    match e with
    | .returned v => Steps P m (lone (c.finish v) cs w')
    | .panicked chain => Steps P m (lone (c.raise chain) cs w')
    | .outgrown => False
def Ctx.round (P : Program) (n : Nat) (f : FuncId) (l : Nat) (w0 : World) (S0 : Nat → Prop) (σ0 : Store) (hS : SOk w0 S0) (hst : RepStore w0 S0 σ0) (R : AEnd → Store → Prop) (c : Frame) (cs : List Frame) : Ctx P ⟨n, []⟩ where
  b := { (default : Frame) with fn := f, kind := .normal, roundOf := some l }
  cs := c :: cs
  ds := []
  w0 := w0
  S0 := S0
  F := sdom σ0
  Z := RoundOk P l w0 S0 σ0 R c cs
  hZ := fun m m' hs ⟨e, w', h1, h2⟩ => ⟨e, w', h1, by
    cases e with
    | returned v => exact hs.trans h2
    | panicked chain => exact hs.trans h2
    | outgrown => exact h2⟩
  hS := fun b hb => ⟨hS.lt b hb, fun hd => by
    cases hs : sget b σ0 with
    | none => exact hd hs
    | some o => exact (hst b o hs).1 hb⟩
  hG := hS.g
structure IsRound {n : Nat} (C : Ctx P ⟨n, []⟩) (l : Nat) (R : AEnd → Store → Prop) : Prop where
  ex : ∃ f w0 S0 σ0 hS hst c cs, (∃ fn, P.funcs[f]? = some fn) ∧ C = Ctx.round P n f l w0 S0 σ0 hS hst R c cs
theorem zip_foldl (ps : Array Nat) (vs : List Value) (tmps : Array Value) : (ps.zip vs.toArray).foldl (fun tmps (t, a) => tmps.setIfInBounds t a) tmps = (ps.toList.zip vs).foldl (fun t (p : Nat × Value) => t.setIfInBounds p.1 p.2) tmps := by
  rw [← Array.foldl_toList]
  simp
theorem AYields.of_body {l : Nat} {args : List D} {σ : Store} {R : AEnd → Store → Prop} {st : LoopState} {pd : Option Code} {f : FuncId} {fn : Func} {n : Nat} {env : Env} {ps : Array Tmp} {asg bd : Code} {df : Nat} (hf : P.funcs[f]? = some fn)
    (hl : sget l σ = some (.lp st pd f n env ps asg bd df)) (hps : ∀ p ∈ ps.toList, p < n) (hn : args.length = ps.size)
    (h : ∀ C : Ctx P ⟨n, []⟩, IsRound C l R → Gs C [.code asg, .beginRound, .code bd] (parEnv ps.toList args env) σ) : AYields P l args σ R := by
  intro w S vs hS hst hr
  obtain ⟨tmps, hh, hsz, hre⟩ := (hst l _ hl).2
  refine ⟨_, hh, by rw [hr.length, hn], fun c cs => ?_⟩
  have hg := h (Ctx.round P n f l w S σ hS hst R c cs) ⟨f, w, S, σ, hS, hst, c, cs, ⟨fn, hf⟩, rfl⟩
  obtain ⟨hp1, hp2⟩ := parEnv_rep ps.toList args vs env tmps hr hre (fun p hp => by rw [hsz]; exact hps p hp)
  have hz := hg { tmps := (ps.zip vs.toArray).foldl (fun tmps (t, a) => tmps.setIfInBounds t a) tmps, defers := [] } w S rfl ⟨by rw [zip_foldl]; exact hp1, hst, Fr.refl σ hS.lt, by rw [zip_foldl]; exact ⟨hp2.trans hsz, fun p hp => by simp at hp⟩⟩
  obtain ⟨e, w', h1, h2⟩ := hz
  exact ⟨e, w', h1, h2⟩
section round
variable {n : Nat} {C : Ctx P ⟨n, []⟩} {k : List Item} {env : Env} {σ : Store} {l : Nat} {R : AEnd → Store → Prop} {st : LoopState} {pd : Option Code} {f : FuncId} {m : Nat} {env0 : Env} {ps : Array Tmp} {asg bd : Code} {df : Nat}
theorem lp_put {w : World} {S : Nat → Prop} (hst : RepStore w S σ) (hlt : ∀ b, S b → b < w.heap.size) (hl : sget l σ = some (.lp st pd f m env0 ps asg bd df)) (st' : LoopState) (pd' : Option Code) :
    ∃ lp ob, w.heap[l]? = some (.loop lp) ∧ lp.state = st ∧ lp.pending = pd ∧ ob = Obj.loop { lp with state := st', pending := pd' } ∧ RepStore { w with heap := w.heap.setIfInBounds l ob } S (sset l (.lp st' pd' f m env0 ps asg bd df) σ) ∧
      Fr w S (sdom σ) { w with heap := w.heap.setIfInBounds l ob } S (sset l (.lp st' pd' f m env0 ps asg bd df) σ) ∧ Ev w S { w with heap := w.heap.setIfInBounds l ob } S := by
  obtain ⟨hSl, tmps, hh, hsz, hre⟩ := hst l _ hl
  refine ⟨_, _, hh, rfl, rfl, rfl, ?_⟩
  obtain ⟨hfr, hother, hself⟩ := fr_obj (σ := σ) (y := .lp st' pd' f m env0 ps asg bd df) (ob := .loop { state := st', pending := pd', fn := f, tmps := tmps, params := ps, assign := asg, body := bd, defers := df }) hlt hl (fun c e fr hc => by rw [hh] at hc; cases hc) (hst l _ hl).2.lt
  have hE : Ev w S { w with heap := w.heap.setIfInBounds l (.loop { state := st', pending := pd', fn := f, tmps := tmps, params := ps, assign := asg, body := bd, defers := df }) } S := hfr.ev fun b hb => ⟨hlt b hb, fun hd => by
    cases hs : sget b σ with
    | none => exact hd hs
    | some o => exact (hst b o hs).1 hb⟩
  exact ⟨store_row hst hE hother hSl ⟨tmps, hself, hsz, fun k => (hre k).ev hE⟩, hfr, hE⟩
theorem getLoop_run {w : World} {lp : Loop} (h : w.heap[l]? = some (.loop lp)) : (Instr.getLoop l).run P w = .ok lp w := by
  simp [Instr.getLoop, getObj, Sem.run, Sem.run_bind, h, Result.andThen]
theorem setObj_run {w : World} {lp : Loop} {ob : Obj} (h : w.heap[l]? = some (.loop lp)) : (setObj l ob).run P w = .ok () { w with heap := w.heap.setIfInBounds l ob } := by
  simp [setObj, Sem.run, h]
theorem Gs.beginRound (hC : IsRound C l R) (hl : sget l σ = some (.lp .ready pd f m env0 ps asg bd df)) (h : Gs C k env (sset l (.lp .busy pd f m env0 ps asg bd df) σ)) : Gs C (.beginRound :: k) env σ := by
  obtain ⟨f0, w0, S0, σ0, hS, hst, c, cs, hfn, rfl⟩ := hC.ex
  intro a w S hd hs
  obtain ⟨lp, ob, hh, h1, h2, hob, hst', hfr, hE⟩ := lp_put hs.store hs.fr.lt hl .busy pd
  have hrun : (Instr.beginRound l).run P w = .ok () { w with heap := w.heap.setIfInBounds l ob } := by
    unfold Instr.beginRound
    rw [Sem.run_bind, getLoop_run hh, Result.andThen_ok, Sem.run_bind, setObj_run hh, Result.andThen_ok, h1, hob, ← h2]
    rfl
  refine (Ctx.round P n f0 l w0 S0 σ0 hS hst R c cs).hZ _ _ (.one (stepR_beginRound rfl hrun)) ?_
  exact h a _ S hd ⟨hs.env.ev hE, hst', hs.fr.trans hfr, hs.size⟩
theorem endRound_run {w : World} {lp : Loop} (h : w.heap[l]? = some (.loop lp)) (j : Option Code) : (Instr.endRound l j).run P w = .ok (.bool j.isNone) { w with heap := w.heap.setIfInBounds l (.loop { lp with state := if j.isNone then .ready else .done, pending := j }) } := by
  unfold Instr.endRound
  rw [Sem.run_bind, getLoop_run h, Result.andThen_ok, Sem.run_bind, setObj_run h, Result.andThen_ok]
  rfl
theorem round_end (hC : IsRound C l R) (hl : sget l σ = some (.lp st pd f m env0 ps asg bd df)) (j : Option Code) {todo : List Item}
    (hstep : ∀ a w v w' c cs, (Instr.endRound l j).run P w = .ok v w' → C.cs = c :: cs → step P (lone (C.b.atR a todo) (c :: cs) w) = .next (lone (c.finish v) cs w'))
    (hR : R (.ret (.v (.bool j.isNone))) (sset l (.lp (if j.isNone then .ready else .done) j f m env0 ps asg bd df) σ)) : Gs C todo env σ := by
  obtain ⟨f0, w0, S0, σ0, hS, hst, c, cs, hfn, rfl⟩ := hC.ex
  intro a w S hd hs
  obtain ⟨lp, ob, hh, h1, h2, hob, hst', hfr, hE⟩ := lp_put hs.store hs.fr.lt hl (if j.isNone then .ready else .done) j
  have hrun := endRound_run (P := P) hh j
  rw [← hob] at hrun
  exact ⟨.returned (.bool j.isNone), _, ⟨_, _, S, hR, .v rfl, hst', hs.fr.trans hfr⟩, .one (hstep a w _ _ c cs hrun rfl)⟩
theorem Gs.roundDone (hC : IsRound C l R) (hl : sget l σ = some (.lp st pd f m env0 ps asg bd df)) (hR : R (.ret (.v (.bool true))) (sset l (.lp .ready none f m env0 ps asg bd df) σ)) : Gs C [] env σ :=
  round_end hC hl none (fun a w v w' c cs hr hc => by obtain ⟨f0, w0, S0, σ0, hS, hst, c0, cs0, hfn, rfl⟩ := hC.ex; exact stepR_round_end rfl rfl hr) hR
theorem Gs.roundRet (hC : IsRound C l R) (hl : sget l σ = some (.lp st pd f m env0 ps asg bd df)) (hR : R (.ret (.v (.bool false))) (sset l (.lp .done (some .ret) f m env0 ps asg bd df) σ)) : Gs C (.code .ret :: k) env σ :=
  round_end hC hl (some .ret) (fun a w v w' c cs hr hc => by obtain ⟨f0, w0, S0, σ0, hS, hst, c0, cs0, hfn, rfl⟩ := hC.ex; exact stepR_round_ret rfl rfl hr) hR
theorem Pan.ofRound (hC : IsRound C l R) {d : D} (hR : R (.panic d) σ) : Pan C d σ := by
  obtain ⟨f0, w0, S0, σ0, hS, hst, c, cs, ⟨fn, hfn⟩, rfl⟩ := hC.ex
  intro a todo w S v hd hv hst' hfr _
  refine ⟨.panicked [{ v, recovered := false }], w, ⟨_, σ, S, hR, ⟨v, rfl, hv⟩, hst', hfr⟩, .one ?_⟩
  exact step_leave_panicked ⟨rfl, hd, fn, hfn⟩
end round
section yield
variable {N : Slots} {C : Ctx P N} {k : List Item} {env : Env} {σ : Store} {ops : Array Oper} {i : Nat} {rest : List Nat} {o : Oper} {l : Nat}
theorem Gs.opYield (ho : ops[i]? = some o) (hg : o.guard = none) {f : Operand} {args : Array Operand} {ts : Array TypeId} (hop : o.op = .call { callee := .value f, args := args, argTypes := ts }) (hN : dstB N o.dst) (hf : ev env f = .clo (.yield l) [] [])
    (h : AYields P l (args.toList.map (ev env)) σ (fun e σ' => match e with | .ret d => Gs C (.inRegion ops rest :: k) (eputo o.dst d env) σ' | .panic d => Pan C d σ')) : Gs C (.inRegion ops (i :: rest) :: k) env σ := by
  intro a w S hd hs
  have hw : Region.wanted o (yielded ops a.tmps) = true := by simp [Region.wanted, hg]
  have hfv := ev_rep hs f
  rw [hf] at hfv
  have hfe : a.eval f = .func (.yield l) #[] #[] := by
    generalize a.eval f = x at hfv
    cases hfv with | clo h1 h2 => rw [h1.nil_inv, h2.nil_inv]
  obtain ⟨lp, hlp, hlen, hgo⟩ := h w S _ hs.sok hs.store (ev_reps hs args.toList)
  have hst := stepGR_op (P := P) (b := C.b) (k := k) (cs := C.cs) (w := w) (rest := rest) ho hw
  rw [Oper.semAt_eq _ _ _ (fun c hc => by rw [hop] at hc; cases hc)] at hst
  have hrun : (execOp a.eval o).run P w = .ok (.round l lp.fn ((lp.params.zip (args.toList.map a.eval).toArray).foldl (fun tmps (t, a) => tmps.setIfInBounds t a) lp.tmps) lp.assign lp.body) w := by
    have hargs : args.map a.eval = (args.toList.map a.eval).toArray := by rw [← Array.toList_map]
    have hy : (Instr.yield l (args.toList.map a.eval).toArray).run P w = .ok (.round l lp.fn ((lp.params.zip (args.toList.map a.eval).toArray).foldl (fun tmps (t, a) => tmps.setIfInBounds t a) lp.tmps) lp.assign lp.body) w := by
      unfold Instr.yield
      have hne : ¬ ((args.toList.map a.eval).toArray.size ≠ lp.params.size) := by simpa using hlen
      rw [Sem.run_bind, getLoop_run hlp, Result.andThen_ok]
      show Sem.run P (if _ then _ else _) w = _
      rw [if_neg hne]
      rfl
    simp only [execOp, hop, resolve, hfe, Deferred.ofValue, Sem.run_bind, Sem.run_pure, Result.andThen_ok]
    rw [hargs]
    simpa [invoke, Sem.run_bind, Result.andThen_ok] using hy
  obtain ⟨e, w', ⟨ae, σ', S', hR, hend, hst', hfr⟩, hsteps⟩ := hgo (C.b.atR a (.inRegion ops (i :: rest) :: k)) C.cs
  have henter : Go.step P (lone (C.b.atR a (.inRegion ops (i :: rest) :: k)) C.cs w) = .next (lone (Frame.round l lp.fn ((lp.params.zip (args.toList.map a.eval).toArray).foldl (fun tmps (t, a) => tmps.setIfInBounds t a) lp.tmps) lp.assign lp.body .normal) (C.b.atR a (.inRegion ops (i :: rest) :: k) :: C.cs) w) :=
    step_lone_go (by rw [hst]; simp [stepG.apply, hrun, Frame.atR])
  have hfin : ∀ v, (C.b.atR a (.inRegion ops (i :: rest) :: k)).finish v = C.b.atR (a.put o.dst v) (.inRegion ops rest :: k) := by
    intro v; rw [Frame.finish_atR, ho]; rfl
  cases e with
  | returned v =>
    cases ae with
    | ret d =>
      refine C.hZ _ _ (.head henter hsteps) ?_
      rw [hfin]
      exact hR (a.put o.dst v) w' S' (by rw [put_defers]; exact hd) (sim_put hs (dstB_ok hN) hend hst' hfr)
    | panic d => exact hend.elim
  | panicked chain =>
    cases ae with
    | ret d => exact hend.elim
    | panic d =>
      obtain ⟨v, rfl, hv⟩ := hend
      refine C.hZ _ _ (.head henter hsteps) ?_
      exact hR a _ w' S' v hd hv hst' (hs.fr.trans hfr) hs.size
  | outgrown => exact hsteps.elim
end yield
end Go.Ab
namespace Go.Ab
open Go
variable {P : Program}
def mark (r : Nat) : Deferred := { target := .collected r, args := #[] }
def Ctx.callM (P : Program) (N : Slots) (f : FuncId) (w0 : World) (S0 : Nat → Prop) (σ0 : Store) (hS : SOk w0 S0) (hst : RepStore w0 S0 σ0) (R : AEnd → Store → Prop) (cs : List Frame) (ms : List Nat) : Ctx P N :=
  { Ctx.call P N f w0 S0 σ0 hS hst R cs with ds := ms.map mark }
structure IsCallM {N : Slots} (C : Ctx P N) (f : FuncId) (R : AEnd → Store → Prop) (ms : List Nat) : Prop where
  ex : ∃ w0 S0 σ0 hS hst cs, C = Ctx.callM P N f w0 S0 σ0 hS hst R cs ms
theorem IsCall.toM {N : Slots} {C : Ctx P N} {f : FuncId} {R : AEnd → Store → Prop} (h : IsCall C f R) : IsCallM C f R [] := by
  obtain ⟨w0, S0, σ0, hS, hst, cs, rfl⟩ := h.ex
  exact ⟨w0, S0, σ0, hS, hst, cs, rfl⟩
section
variable {N : Slots} {C : Ctx P N} {k : List Item} {env : Env} {σ : Store} {f : FuncId} {fn : Func} {R : AEnd → Store → Prop} {ms : List Nat}
theorem Sim.alloc {a : Act} {w : World} {S : Nat → Prop} (h : Sim C env σ w S a.tmps) (ob : Obj) (x : AObj) (hx : RepObj (w.alloc ob) S w.heap.size x) : Sim C env ((w.heap.size, x) :: σ) (w.alloc ob) S a.tmps :=
  have hfr := fr_alloc h ob x
  ⟨h.env.ev (sim_ev h hfr), store_alloc h.store h.fr.lt ob x hx, h.fr.trans hfr, h.size⟩
theorem Gs.rangeFunc (hC : IsCallM C f R ms) {g : Operand} {gf : FuncId} {caps : List D} {ps : Array Tmp} {asg bd : Code} (hg : ev env g = .clo (.func gf) [] caps) (he : ∀ args w, (callFunc gf args).run P w = .ok (.enter gf args) w)
    (h : ∀ (l r : Nat) (C' : Ctx P N), sget r σ = none → sget l ((r, .dblk) :: σ) = none → IsCallM C' f R (r :: ms) →
      AC P gf (.clo (.yield l) [] [] :: caps) ((l, .lp .ready none f N.n env ps asg bd r) :: (r, .dblk) :: σ) (fun e σ' => match e with
        | .ret _ => ∃ st pd, sget l σ' = some (.lp st pd f N.n env ps asg bd r) ∧ (st == .busy) = false ∧ Gs C' ((pd.map Item.code).toList ++ k) env (sset l (.lp .exhausted pd f N.n env ps asg bd r) σ')
        | .panic d => Pan C' d σ')) : Gs C (.code (.rangeFunc g ps asg bd) :: k) env σ := by
  obtain ⟨w0, S0, σ0, hS, hst, cs, rfl⟩ := hC.ex
  intro a w S hd hs
  let w1 := w.alloc (.deferred (some []))
  let lp : Loop := { state := .ready, pending := none, fn := f, tmps := a.tmps, params := ps, assign := asg, body := bd, defers := w.heap.size }
  let w2 := w1.alloc (.loop lp)
  have hs1 : Sim (Ctx.callM P N f w0 S0 σ0 hS hst R cs ms) env ((w.heap.size, .dblk) :: σ) w1 S a.tmps := hs.alloc _ .dblk (heap_alloc w _)
  have henv2 : ∀ k, Rep w2 S (eget k env) (a.tmps.getD k undef) := fun k => (hs1.env k).ev (ev_alloc hs1.fr.lt _)
  have hs2 : Sim (Ctx.callM P N f w0 S0 σ0 hS hst R cs ms) env ((w1.heap.size, .lp .ready none f N.n env ps asg bd w.heap.size) :: (w.heap.size, .dblk) :: σ) w2 S a.tmps :=
    hs1.alloc _ _ ⟨a.tmps, heap_alloc w1 _, hs.size.1, henv2⟩
  have hfresh : sget w.heap.size σ = none := not_sdom_size hs.store
  have hfresh2 : sget w1.heap.size ((w.heap.size, .dblk) :: σ) = none := not_sdom_size hs1.store
  have henter : (Instr.enterLoop f a.tmps ps asg bd none).run P w = .ok (w1.heap.size, [mark w.heap.size]) w2 := by
    simp [Instr.enterLoop, w1, w2, lp, mark]
  have hgv := ev_rep hs2 g
  rw [hg] at hgv
  obtain ⟨cv, hge, hcv⟩ : ∃ cv : List Value, a.eval g = .func (.func gf) #[] cv.toArray ∧ RepL w2 S caps cv := by
    generalize a.eval g = x at hgv
    cases hgv with | clo h1 h2 => exact ⟨_, by rw [h1.nil_inv], h2⟩
  have hres : (resolve a.eval (rangeCall g w1.heap.size) 0).run P w2 = .ok { target := .fn (.func gf) cv.toArray, args := #[.func (.yield w1.heap.size) #[] #[]] } w2 := by
    have hy : a.eval (.const (.func (.yield w1.heap.size) #[] #[])) = .func (.yield w1.heap.size) #[] #[] := rfl
    simp only [resolve, rangeCall, hge, Deferred.ofValue, List.map_toArray, List.map_cons, List.map_nil, hy, Sem.run_pure]
    rfl
  have hinv : (invoke (.fn (.func gf) cv.toArray) #[.func (.yield w1.heap.size) #[] #[]]).run P w2 = .ok (.enter gf (Value.func (.yield w1.heap.size) #[] #[] :: cv).toArray) w2 := by
    simp only [invoke]
    rw [he]
    congr 2
    apply Array.ext'
    simp
  let C' : Ctx P N := Ctx.callM P N f w0 S0 σ0 hS hst R cs (w.heap.size :: ms)
  have hcall := h w1.heap.size w.heap.size C' hfresh hfresh2 ⟨_, _, _, _, _, _, rfl⟩ w2 S (Value.func (.yield w1.heap.size) #[] #[] :: cv) hs2.sok hs2.store (.cons (.clo (f := []) (c := []) .nil .nil) hcv)
  let b : Frame := { (default : Frame) with fn := f, kind := .normal }
  have hstep := stepR_rangeFunc (P := P) (b := b) (a := a) (k := k) (cs := cs) (w := w) (g := g) (ps := ps) (assign := asg) (body := bd) henter hres hinv
  obtain ⟨e, w3, fr, ⟨ae, σ', S', hR, hend, hst', hfr⟩, hcomes, hfn, hleave⟩ := hcall (b.atR { a with defers := [mark w.heap.size] ++ a.defers } (.inRangeFunc w1.heap.size :: k) :: cs)
  have hE : Ev w2 S w3 S' := sim_ev hs2 hfr
  have hdd : ([mark w.heap.size] ++ a.defers) = (w.heap.size :: ms).map mark := by rw [show a.defers = ms.map mark from hd]; rfl
  cases e with
  | outgrown => cases ae <;> exact hend.elim
  | returned v =>
    cases ae with
    | panic d => exact hend.elim
    | ret d =>
      obtain ⟨st, pd, hl, hbusy, hgo⟩ := hR
      obtain ⟨lp', ob, hh, h1, h2, hob, hst2, hfr2, hE2⟩ := lp_put hst' hfr.lt hl .exhausted pd
      have hel : (Instr.endLoop w1.heap.size).run P w3 = .ok pd { w3 with heap := w3.heap.setIfInBounds w1.heap.size ob } := by
        unfold Instr.endLoop
        rw [Sem.run_bind, getLoop_run hh, Result.andThen_ok]
        have hb2 : (lp'.state == .busy) = false := by rw [h1]; exact hbusy
        simp only [hb2, Bool.false_eq_true, if_false]
        rw [Sem.run_bind, setObj_run hh, Result.andThen_ok, hob, ← h2]
        rfl
      have hsteps : Steps P (lone (b.atR a (.code (.rangeFunc g ps asg bd) :: k)) cs w) (lone (b.atR { a with defers := [mark w.heap.size] ++ a.defers } ((pd.map Item.code).toList ++ k)) cs { w3 with heap := w3.heap.setIfInBounds w1.heap.size ob }) := by
        refine .head hstep (Steps.trans hcomes (.head ?_ (.one (stepR_endRangeFunc hel))))
        rw [← finish_atR_inRangeFunc w1.heap.size v]
        exact step_leave_returned hleave
      refine (Ctx.callM P N f w0 S0 σ0 hS hst R cs ms).hZ _ _ hsteps ?_
      exact hgo { a with defers := [mark w.heap.size] ++ a.defers } _ S' hdd ⟨fun j => ((henv2 j).ev hE).ev hE2, hst2, (hs2.fr.trans hfr).trans hfr2, hs.size⟩
  | panicked chain =>
    cases ae with
    | ret d => exact hend.elim
    | panic d =>
      obtain ⟨v, rfl, hv⟩ := hend
      refine (Ctx.callM P N f w0 S0 σ0 hS hst R cs ms).hZ _ _ (.head hstep (Steps.trans hcomes (.one (step_leave_panicked hleave)))) ?_
      exact hR { a with defers := [mark w.heap.size] ++ a.defers } (.inRangeFunc w1.heap.size :: k) w3 S' v hdd hv hst' (hs2.fr.trans hfr) hs.size
theorem marks_out {w0 : World} {S0 F S : Nat → Prop} {σ' : Store} {cs : List Frame} : ∀ (ms : List Nat) (w : World) (fr : Frame), fr.mode ≠ .run → fr.defers = ms.map mark → ms.Nodup →
    (∀ r ∈ ms, w.heap[r]? = some (.deferred (some [])) ∧ ¬ S r ∧ (F r ∨ w0.heap.size ≤ r) ∧ sget r σ' = none) → RepStore w S σ' → Fr w0 S0 F w S σ' →
    ∃ w', Steps P (lone fr cs w) (lone { fr with defers := [] } cs w') ∧ RepStore w' S σ' ∧ Fr w0 S0 F w' S σ' ∧ Ev w S w' S
  | [], w, fr, _, hd, _, _, hst, hfr => ⟨w, by
      have : fr = { fr with defers := [] } := by rw [← show fr.defers = [] from hd]
      rw [← this]; exact Steps.refl _ _, hst, hfr, Ev.refl w S⟩
  | r :: ms, w, fr, hm, hd, hnd, hms, hst, hfr => by
    obtain ⟨hh, hSr, hFr, hsr⟩ := hms r (by simp)
    have hlt : r < w.heap.size := (Array.getElem?_eq_some_iff.1 hh).1
    let w1 : World := { w with heap := w.heap.setIfInBounds r (.deferred none) }
    have htake : (Instr.takeDeferred r).run P w = .ok [] w1 := by
      simp [Instr.takeDeferred, getObj, setObj, Sem.run_bind, Sem.run, Result.andThen, hh, w1]
    have hstep := step_collected (P := P) (cs := cs) (fr := fr) (ds := ms.map mark) (d := mark r) hm (by rw [hd]; rfl) rfl htake
    have ho : ∀ k, k ≠ r → w1.heap[k]? = w.heap[k]? := fun k hk => by
      show (w.heap.setIfInBounds r _)[k]? = _
      rw [Array.getElem?_setIfInBounds_ne (by omega)]
    have hsh : Shape w w1 := fun b c e fr' hb => by
      by_cases hbr : b = r
      · subst hbr; rw [hh] at hb; cases hb
      · exact ⟨c, fr', (ho b hbr).trans hb, rfl⟩
    have hE : Ev w S w1 S := ⟨fun _ h => h, fun b hb => ho b (fun h => hSr (h ▸ hb)), hsh⟩
    have hst1 : RepStore w1 S σ' := fun b o hb => by
      obtain ⟨h1, h2⟩ := hst b o hb
      exact ⟨h1, h2.ev hE (ho b (fun h => by rw [h, hsr] at hb; cases hb))⟩
    have hfr1 : Fr w0 S0 F w1 S σ' := ⟨hfr.os, hfr.tape, hfr.output, by simp [w1]; exact hfr.size, hfr.shape.trans hsh, fun b hb hF => by
        rw [ho b (fun h => by subst h; rcases hFr with h1 | h1; exact hF h1; omega)]; exact hfr.block b hb hF, hfr.mono, hfr.new, hfr.dom, fun b hb => by simp [w1]; exact hfr.lt b hb⟩
    obtain ⟨w', hs, h1, h2, h3⟩ := marks_out ms w1 { fr with defers := [] ++ ms.map mark } hm rfl (List.nodup_cons.1 hnd).2 (fun q hq => by
      obtain ⟨q1, q2, q3, q4⟩ := hms q (by simp [hq])
      exact ⟨(ho q (fun h => (List.nodup_cons.1 hnd).1 (h ▸ hq))).trans q1, q2, q3, q4⟩) hst1 hfr1
    exact ⟨w', .head hstep hs, h1, h2, hE.trans h3⟩
theorem marks_of {w0 : World} {S0 F : Nat → Prop} {w : World} {S : Nat → Prop} {σ' : Store} (hms : ∀ r ∈ ms, sget r σ = some .dblk) (hno : ∀ r ∈ ms, sget r σ' = none) (hst : RepStore w S σ) (hfr : Fr w0 S0 F w S σ) :
    ∀ r ∈ ms, w.heap[r]? = some (.deferred (some [])) ∧ ¬ S r ∧ (F r ∨ w0.heap.size ≤ r) ∧ sget r σ' = none := fun r hr =>
  ⟨(hst r _ (hms r hr)).2, (hst r _ (hms r hr)).1, hfr.dom r (by unfold sdom; rw [hms r hr]; simp), hno r hr⟩
theorem end_ofM {m : Machine} {w0 : World} {S0 : Nat → Prop} {σ0 σ' : Store} {cs : List Frame} {a : Act} {todo : List Item} {w : World} {S : Nat → Prop} (hf : P.funcs[f]? = some fn) (hd : a.defers = ms.map mark) (hnd : ms.Nodup)
    (hms : ∀ r ∈ ms, sget r σ = some .dblk) (hle : SLe σ' σ) (hno : ∀ r ∈ ms, sget r σ' = none)
    (henv : RepEnv w S env a.tmps) (hst : RepStore w S σ) (hfr : Fr w0 S0 (sdom σ0) w S σ) (hres : ∀ r ∈ fn.results.toList, resPre P env σ' r) (hR : R (.ret (resD P env σ' fn.results.toList)) σ')
    (hs : Steps P m (lone { ({ (default : Frame) with fn := f, kind := .normal } : Frame).atR a todo with mode := .returning } cs w)) : EndOk P f w0 S0 σ0 R cs m := by
  obtain ⟨w', hsteps, hst', hfr', hE⟩ := marks_out (P := P) (cs := cs) ms w { ({ (default : Frame) with fn := f, kind := .normal } : Frame).atR a todo with mode := .returning } (by intro h; cases h) hd hnd (marks_of hms hno hst hfr) (hst.le hle) (hfr.le hle)
  exact end_of (P := P) (a := { tmps := a.tmps, defers := [] }) hf rfl (henv.ev hE) hst' hfr' hres hR (hs.trans hsteps)
theorem Gs.retM {σ' : Store} (hC : IsCallM C f R ms) (hf : P.funcs[f]? = some fn) (hnd : ms.Nodup) (hms : ∀ r ∈ ms, sget r σ = some .dblk) (hle : SLe σ' σ) (hno : ∀ r ∈ ms, sget r σ' = none)
    (hres : ∀ r ∈ fn.results.toList, resPre P env σ' r) (hR : R (.ret (resD P env σ' fn.results.toList)) σ') : Gs C (.code .ret :: k) env σ := by
  obtain ⟨w0, S0, σ0, hS, hst, cs, rfl⟩ := hC.ex
  intro a w S hd hs
  exact end_ofM hf hd hnd hms hle hno hs.env hs.store hs.fr hres hR (.one (stepR_ret rfl))
theorem Pan.ofM {d : D} {σ' : Store} (hC : IsCallM C f R ms) (hf : P.funcs[f]? = some fn) (hnd : ms.Nodup) (hms : ∀ r ∈ ms, sget r σ = some .dblk) (hle : SLe σ' σ) (hno : ∀ r ∈ ms, sget r σ' = none) (hR : R (.panic d) σ') : Pan C d σ := by
  obtain ⟨w0, S0, σ0, hS, hst, cs, rfl⟩ := hC.ex
  intro a todo w S v hd hv hst' hfr _
  obtain ⟨w', hsteps, hst2, hfr2, hE⟩ := marks_out (P := P) (cs := cs) ms w { ({ (default : Frame) with fn := f, kind := .normal } : Frame).atR a todo with mode := .panicking [{ v, recovered := false }] } (by intro h; cases h) hd hnd (marks_of hms hno hst' hfr) (hst'.le hle) (hfr.le hle)
  exact ⟨.panicked [{ v, recovered := false }], w', _, ⟨_, σ', S, hR, ⟨v, rfl, hv.ev hE⟩, hst2, hfr2⟩, hsteps, rfl, rfl, rfl, fn, hf⟩
end
end Go.Ab
namespace Go.Ab
open Go
theorem Gs.scope {P : Program} {N : Slots} {C : Ctx P N} {k : List Item} {env : Env} {σ : Store} {c : Code} (h : Gs C (.code c :: .inScope c :: k) env σ) : Gs C (.code (.scope c) :: k) env σ :=
  .step (fun _ _ => step_lone_go (by simp [stepG, stepG.exec, Frame.atR])) h
theorem Gs.inScope {P : Program} {N : Slots} {C : Ctx P N} {k : List Item} {env : Env} {σ : Store} {c : Code} (h : Gs C k env σ) : Gs C (.inScope c :: k) env σ :=
  .step (fun _ _ => step_lone_go (by simp [stepG, stepG.exec, Frame.atR])) h
end Go.Ab
namespace Go.Ab.S16
open Go Go.Proofs
def iD (n : Int) : D := .v (.int .i64 n)
theorem take_succ_none {α : Type} {p : α → Bool} {l : List α} {i : Nat} (hlt : i < l.length) (hall : ∀ s ∈ l.take i, p s = false) (h : p l[i] = false) : ∀ s ∈ l.take (i + 1), p s = false := fun s hs => by
  rw [List.take_succ_eq_append_getElem hlt] at hs
  rcases List.mem_append.1 hs with hs | hs
  · exact hall s hs
  · simp only [List.mem_singleton] at hs; rw [hs]; exact h
theorem index_int (l : List Int) (v : Int) (σ : Store) (hl : l.length < 2 ^ 40) :
    AC Tryz.prog 121 [.slc (l.map iD), .v (.int .i64 v)] σ (fun e σ' => e = .ret (.v (.int .i64 (idxI (fun s => v == s) l))) ∧ σ' = σ) := by
  have hll : (l.map iD).length = l.length := List.length_map ..
  refine AC.of_body Tryz.func121 rfl Tryz.ntmps121 (by simp) fun C hC => ?_
  refine Gs.sq (Gs.rg [0, 1] fun K hK => ?_); simp (maxSteps:=9^7) only [go_sem]
  refine hK _ _ ?_; clear hK K
  refine Gs.sq (Gs.sq ?_)
  refine Gs.rg [0, 1] fun K hK => ?_; simp (maxSteps:=9^7) only [go_sem]
  refine hK _ _ ?_; clear hK K
  refine Gs.bk ?_
  refine Gs.rebase [0, 1, 7, 8] ?_
  simp only [go_sem]
  refine Gs.while (fun (i : Nat) env' σ'' => (i ≤ l.length ∧ (∀ s ∈ l.take i, (v == s) = false)) ∧ env' = [(0, .slc (l.map iD)), (1, .v (.int .i64 v)), (7, .v (.int .i64 (l.length : Int))), (8, .v (.int .i64 (i : Int)))] ∧ σ = σ'') (fun (i : Nat) => l.length - i) 0 ⟨⟨by omega, by simp⟩, by rw [hll]; rfl, rfl⟩ ?_
  rintro i env' σ'' ⟨⟨hi, hall⟩, rfl, rfl⟩ ih
  have ih1 := ih
  refine Gs.sq (Gs.rg [0, 1, 7, 8] fun K hK => ?_); simp (maxSteps:=9^7) only [go_sem]
  refine hK _ _ ?_; clear hK K
  refine Gs.sq ?_
  refine Gs.cond rfl (fun h9 => ?_) (fun h9 => ?_)
  · have hlt : i < l.length := by simpa using h9
    have hg := getD_map_lt iD l i hlt
    rw [iD] at hg
    have hi0 : (0 : Int) ≤ (i : Int) := by omega
    have hi1 : (i : Int) < ((l.map iD).length : Int) := by omega
    refine Gs.sk ?_
    refine Gs.sq ?_
    refine Gs.bk ?_
    refine Gs.sq (Gs.rg [0, 1, 7, 8] fun K hK => ?_); simp (maxSteps:=9^7) only [go_sem]
    refine hK _ _ ?_; clear hK K
    refine Gs.sq (Gs.rg [0, 1, 5, 7, 8] fun K hK => ?_); simp (maxSteps:=9^7) only [go_sem, hg, hi0, hi1]
    refine hK _ _ ?_; clear hK K
    refine Gs.cond rfl (fun h16 => ?_) (fun h16 => ?_)
    · refine Gs.sq ?_
      refine Gs.rg [5] fun K hK => ?_; simp (maxSteps:=9^7) only [go_sem]
      refine hK _ _ ?_; clear hK K
      refine Gs.ret hC Tryz.func121 (by simp [go_sem]) ?_
      simp only [go_sem]
      rw [idxI_at hlt hall h16]
    · refine Gs.sk ?_
      refine Gs.ib ?_
      refine Gs.rg [0, 1, 7, 8] fun K hK => ?_; simp (maxSteps:=9^7) only [go_sem]
      refine hK _ _ ?_; clear hK K
      refine Gs.rebase [0, 1, 7, 8] ?_
      simp only [go_sem]
      rw [wrap_succ i (by omega)]
      exact ih (i + 1) _ _ ⟨⟨by omega, take_succ_none hlt hall h16⟩, rfl, rfl⟩ (by omega)
  · have : i = l.length := by simp at h9; omega
    subst this
    rw [List.take_length] at hall
    refine Gs.exit rfl ?_
    refine Gs.sq (Gs.rg [] fun K hK => ?_); simp (maxSteps:=9^7) only [go_sem]
    refine hK _ _ ?_; clear hK K
    refine Gs.ret hC Tryz.func121 (by simp [go_sem]) ?_
    simp only [go_sem]
    rw [idxI_none hall]
theorem contains_int (l : List Int) (v : Int) (σ : Store) (hl : l.length < 2 ^ 40) :
    AC Tryz.prog 91 [.slc (l.map iD), .v (.int .i64 v)] σ (fun e σ' => e = .ret (.v (.bool (l.any fun s => v == s))) ∧ σ' = σ) := by
  refine AC.of_body Tryz.func91 rfl Tryz.ntmps91 (by simp) fun C hC => ?_
  refine Gs.sq (Gs.rg [0, 1] fun K hK => ?_); simp (maxSteps:=9^7) only [go_sem]
  refine hK _ _ ?_; clear hK K
  refine Gs.sq (Gs.rg [0, 1] fun K hK => ?_); simp (maxSteps:=9^7) only [go_sem]
  refine ⟨_, Tryz.call121, (index_int l v σ hl).mono ?_⟩
  rintro e σ1 ⟨rfl, rfl⟩
  simp only [go_sem]
  refine hK _ _ ?_; clear hK K
  refine Gs.ret hC Tryz.func91 (by simp [go_sem]) ?_
  simp only [go_sem]
  rw [idxI_ge]
theorem contains_intO {ob : Option Nat} {n : Nat} (l : List Int) (v : Int) (σ : Store) (hx : oget 1 ob σ = some (l.map iD)) (hn : n = l.length) (hl : l.length < 2 ^ 40) :
    AC Tryz.prog 91 [.own ob 1 n, .v (.int .i64 v)] σ (fun e σ' => e = .ret (.v (.bool (l.any fun s => v == s))) ∧ σ' = σ) := by
  subst hn
  have := Views.own1 (rest := [.v (.int .i64 v)]) (n := l.length) hx (by simp) (fun _ _ _ => rfl)
  rw [List.take_of_length_le (by simp)] at this
  exact AC.lend this rfl ((contains_int l v [] hl).mono fun e σ' h => h)
theorem contains_strO {ob : Option Nat} {n : Nat} (l : List ByteArray) (v : ByteArray) (σ : Store) (hx : oget 1 ob σ = some (l.map sD)) (hn : n = l.length) (hl : l.length < 2 ^ 40) :
    AC Tryz.prog 50 [.own ob 1 n, .v (.string v)] σ (fun e σ' => e = .ret (.v (.bool (l.any fun s => v.toList == s.toList))) ∧ σ' = σ) := by
  subst hn
  have := Views.own1 (rest := [.v (.string v)]) (n := l.length) hx (by simp) (fun _ _ _ => rfl)
  rw [List.take_of_length_le (by simp)] at this
  exact AC.lend this rfl ((contains_str l v [] hl).mono fun e σ' h => h)
theorem indexFunc_strO (b n : Nat) (l : List ByteArray) (g : FuncId) (caps : List D) (p : ByteArray → Bool) (σ : Store) (hb : sget b σ = some (.arr 1 (l.map sD))) (hn : n = l.length) (hl : l.length < 2 ^ 40) (ht : Tests caps g p l σ) :
    AC Tryz.prog 74 [.own (some b) 1 n, .clo (.func g) [] caps] σ (fun e σ' => e = .ret (.v (.int .i64 (idxI p l))) ∧ σ' = σ) := by
  subst hn
  have hll : (l.map sD).length = l.length := List.length_map ..
  refine AC.of_body Tryz.func74 rfl Tryz.ntmps74 (by simp) fun C hC => ?_
  refine Gs.sq (Gs.rg [0, 1] fun K hK => ?_); simp (maxSteps:=9^7) only [go_sem]
  refine hK _ _ ?_; clear hK K
  refine Gs.sq (Gs.sq ?_)
  refine Gs.rg [0, 1] fun K hK => ?_; simp (maxSteps:=9^7) only [go_sem]
  refine hK _ _ ?_; clear hK K
  refine Gs.bk ?_
  refine Gs.rebase [0, 1, 7, 8] ?_
  simp only [go_sem]
  refine Gs.while (fun (i : Nat) env' σ'' => (i ≤ l.length ∧ (∀ s ∈ l.take i, p s = false)) ∧ env' = [(0, .own (some b) 1 l.length), (1, .clo (.func g) [] caps), (7, .v (.int .i64 (l.length : Int))), (8, .v (.int .i64 (i : Int)))] ∧ σ = σ'') (fun (i : Nat) => l.length - i) 0 ⟨⟨by omega, by simp⟩, rfl, rfl⟩ ?_
  rintro i env' σ'' ⟨⟨hi, hall⟩, rfl, rfl⟩ ih
  have ih1 := ih
  refine Gs.sq (Gs.rg [0, 1, 7, 8] fun K hK => ?_); simp (maxSteps:=9^7) only [go_sem]
  refine hK _ _ ?_; clear hK K
  refine Gs.sq ?_
  refine Gs.cond rfl (fun h9 => ?_) (fun h9 => ?_)
  · have hlt : i < l.length := by simpa using h9
    have hg := getD_map_lt sD l i hlt
    rw [sD] at hg
    have hi0 : (0 : Int) ≤ (i : Int) := by omega
    have hi1 : (i : Int) < (l.length : Int) := by omega
    refine Gs.sk ?_
    refine Gs.sq ?_
    refine Gs.bk ?_
    refine Gs.sq (Gs.rg [0, 1, 7, 8] fun K hK => ?_); simp (maxSteps:=9^7) only [go_sem]
    refine hK _ _ ?_; clear hK K
    refine Gs.sq (Gs.rg [0, 1, 5, 7, 8] fun K hK => ?_); simp (maxSteps:=9^7) only [go_sem, hg, hi0, hi1, hb, hll, hlt]
    refine ⟨g, ht.call, (ht.ans l[i] (List.getElem_mem hlt)).mono ?_⟩
    rintro e σ1 ⟨rfl, rfl⟩
    simp only [go_sem]
    refine hK _ _ ?_; clear hK K
    refine Gs.cond rfl (fun h16 => ?_) (fun h16 => ?_)
    · refine Gs.sq ?_
      refine Gs.rg [5] fun K hK => ?_; simp (maxSteps:=9^7) only [go_sem]
      refine hK _ _ ?_; clear hK K
      refine Gs.ret hC Tryz.func74 (by simp [go_sem]) ?_
      simp only [go_sem]
      rw [idxI_at hlt hall h16]
    · refine Gs.sk ?_
      refine Gs.ib ?_
      refine Gs.rg [0, 1, 7, 8] fun K hK => ?_; simp (maxSteps:=9^7) only [go_sem]
      refine hK _ _ ?_; clear hK K
      refine Gs.rebase [0, 1, 7, 8] ?_
      simp only [go_sem]
      rw [wrap_succ i (by omega)]
      exact ih (i + 1) _ _ ⟨⟨by omega, take_succ_none hlt hall h16⟩, rfl, rfl⟩ (by omega)
  · have : i = l.length := by simp at h9; omega
    subst this
    rw [List.take_length] at hall
    refine Gs.exit rfl ?_
    refine Gs.sq (Gs.rg [] fun K hK => ?_); simp (maxSteps:=9^7) only [go_sem]
    refine hK _ _ ?_; clear hK K
    refine Gs.ret hC Tryz.func74 (by simp [go_sem]) ?_
    simp only [go_sem]
    rw [idxI_none hall]
def kept {α : Type} (p : α → Bool) (l : List α) : List α := l.filter fun x => !p x
theorem kept_none {α : Type} {p : α → Bool} {l : List α} (h : ∀ x ∈ l, p x = false) : kept p l = l := List.filter_eq_self.2 fun x hx => by rw [h x hx]; rfl
theorem kept_take_succ {α : Type} {p : α → Bool} {l : List α} {j : Nat} (h : j < l.length) : kept p (l.take (j + 1)) = kept p (l.take j) ++ if p l[j] then [] else [l[j]] := by
  unfold kept
  rw [List.take_succ_eq_append_getElem h, List.filter_append]
  cases hp : p l[j] <;> simp [hp]
theorem kept_len {α : Type} (p : α → Bool) (l : List α) : (kept p l).length ≤ l.length := List.length_filter_le ..
theorem kept_take_len {α : Type} (p : α → Bool) (l : List α) (j : Nat) : (kept p (l.take j)).length ≤ j := Nat.le_trans (kept_len ..) (by simp; omega)
def midL {α : Type} (p : α → Bool) (l : List α) (j : Nat) (zs : List α) : List α := kept p (l.take j) ++ zs ++ l.drop j
theorem midL_len {α : Type} {p : α → Bool} {l : List α} {j : Nat} {zs : List α} (hj : j ≤ l.length) (hz : zs.length = j - (kept p (l.take j)).length) : (midL p l j zs).length = l.length := by
  have := kept_take_len p l j
  simp [midL, hz]; omega
theorem midL_get {α : Type} {p : α → Bool} {l : List α} {j : Nat} {zs : List α} (hj : j < l.length) (hz : zs.length = j - (kept p (l.take j)).length) (h : j < (midL p l j zs).length) : (midL p l j zs)[j] = l[j] := by
  have := kept_take_len p l j
  have h2 : (midL p l j zs)[j]? = some l[j] := by
    unfold midL
    rw [List.getElem?_append_right (by simp [hz]; omega)]
    simp only [List.length_append, hz]
    rw [show j - ((kept p (l.take j)).length + (j - (kept p (l.take j)).length)) = 0 by omega]
    rw [List.drop_eq_getElem_cons hj]
    simp
  rw [List.getElem?_eq_getElem h] at h2
  simpa using h2
theorem midL_skip {α : Type} {p : α → Bool} {l : List α} {j : Nat} {zs : List α} (hj : j < l.length) (hp : p l[j] = true) : midL p l j zs = midL p l (j + 1) (zs ++ [l[j]]) := by
  unfold midL
  rw [kept_take_succ hj, if_pos hp, List.drop_eq_getElem_cons hj]
  simp
theorem midL_set {α : Type} {p : α → Bool} {l : List α} {j : Nat} {zs : List α} (hj : j < l.length) (hz : zs.length = j - (kept p (l.take j)).length) (h0 : (kept p (l.take j)).length < j) (hp : p l[j] = false) :
    (midL p l j zs).set (kept p (l.take j)).length l[j] = midL p l (j + 1) (zs.drop 1 ++ [l[j]]) := by
  unfold midL
  rw [kept_take_succ hj, if_neg (by rw [hp]; simp), List.drop_eq_getElem_cons hj]
  cases zs with
  | nil => simp at hz; omega
  | cons z zs =>
    rw [List.append_assoc, List.set_append_right _ _ (by simp)]
    simp
theorem kept_at {α : Type} {p : α → Bool} {l : List α} {i : Nat} (hi : i < l.length) (hpre : ∀ x ∈ l.take i, p x = false) (hp : p l[i] = true) : (kept p (l.take (i + 1))).length = i ∧ midL p l (i + 1) [l[i]] = l := by
  rw [kept_take_succ hi, if_pos hp, List.append_nil, kept_none hpre]
  refine ⟨by simp; omega, ?_⟩
  unfold midL
  rw [kept_take_succ hi, if_pos hp, List.append_nil, kept_none hpre]
  rw [← List.take_succ_eq_append_getElem hi, List.take_append_drop]
theorem idxI_cases {α : Type} (p : α → Bool) (l : List α) : (idxI p l = -1 ∧ ∀ x ∈ l, p x = false) ∨ ∃ (i : Nat) (hi : i < l.length), idxI p l = i ∧ (∀ x ∈ l.take i, p x = false) ∧ p l[i] = true := by
  unfold idxI
  cases hf : l.findIdx? p with
  | none => exact .inl ⟨rfl, fun x hx => by simpa using List.findIdx?_eq_none_iff.1 hf x hx⟩
  | some i =>
    obtain ⟨h1, h2, h3⟩ := List.findIdx?_eq_some_iff_getElem.1 hf
    refine .inr ⟨i, h1, rfl, fun x hx => ?_, h2⟩
    obtain ⟨j, hj, rfl⟩ := List.getElem_of_mem hx
    have hj2 : j < i := by simp at hj; omega
    rw [List.getElem_take]
    simpa using h3 j hj2
theorem clear_row_eq {α : Type} {F : α → D} {p : α → Bool} {l : List α} {zs : List α} {z : D} (hz : zs.length = l.length - (kept p l).length) :
    List.take (kept p l).length (List.map F (midL p l l.length zs)) ++ List.replicate (l.length - (kept p l).length) z ++ List.drop ((kept p l).length + (l.length - (kept p l).length)) (List.map F (midL p l l.length zs)) =
      (kept p l).map F ++ List.replicate (l.length - (kept p l).length) z := by
  have := kept_len p l
  unfold midL
  rw [List.take_length, List.drop_length, List.append_nil, List.map_append, List.take_left' (by simp), List.drop_of_length_le (by simp [hz])]
  simp
theorem deleteFunc_str (b : Nat) (l : List ByteArray) (g : FuncId) (caps : List D) (p : ByteArray → Bool) (ρ : Store) (hl : l.length < 2 ^ 40) (hρ : sget b ρ = none) (ht : ∀ τ, SLe ρ τ → Tests caps g p l τ) :
    AC Tryz.prog 71 [.own (some b) 1 l.length, .clo (.func g) [] caps] ((b, .arr 1 (l.map sD)) :: ρ)
      (fun e σ' => e = .ret (.own (some b) 1 (kept p l).length) ∧ ∃ k, σ' = (b, .arr 1 ((kept p l).map sD ++ List.replicate k (.v (.string ByteArray.empty)))) :: ρ) := by
  have hll : (l.map sD).length = l.length := List.length_map ..
  have hb : sget b ((b, AObj.arr 1 (l.map sD)) :: ρ) = some (.arr 1 (l.map sD)) := sget_self ..
  refine AC.of_body Tryz.func71 rfl Tryz.ntmps71 (by simp) fun C hC => ?_
  refine Gs.sq (Gs.rg [0, 1] fun K hK => ?_); simp (maxSteps:=9^7) only [go_sem]
  refine hK _ _ ?_; clear hK K
  refine Gs.sq (Gs.rg [0, 1] fun K hK => ?_); simp (maxSteps:=9^7) only [go_sem]
  refine ⟨_, Tryz.call74, (indexFunc_strO b l.length l g caps p _ hb rfl hl (ht _ (sle_cons (SLe.refl ρ) hρ))).mono ?_⟩
  rintro e σ1 ⟨rfl, rfl⟩
  simp only [go_sem]
  refine hK _ _ ?_; clear hK K
  refine Gs.sq (Gs.sq ?_)
  rcases idxI_cases p l with ⟨hm, hno⟩ | ⟨i0, hi0, hm, hpre, hp0⟩
  · rw [hm]
    refine Gs.rg [0, 1, 5] fun K hK => ?_; simp (maxSteps:=9^7) only [go_sem]
    refine hK _ _ ?_; clear hK K
    refine Gs.condT rfl ?_
    refine Gs.sq (Gs.rg [0] fun K hK => ?_); simp (maxSteps:=9^7) only [go_sem]
    refine hK _ _ ?_; clear hK K
    refine Gs.ret hC Tryz.func71 (by simp [go_sem]) ?_
    simp only [go_sem]
    rw [kept_none hno]
    exact ⟨rfl, 0, by simp⟩
  rw [hm]
  have hne : ((i0 : Int) == -1) = false := by simp
  obtain ⟨hk1, hrow⟩ := kept_at hi0 hpre hp0
  refine Gs.rg [0, 1, 5] fun K hK => ?_; simp (maxSteps:=9^7) only [go_sem, hne]
  refine hK _ _ ?_; clear hK K
  refine Gs.condF rfl ?_
  refine Gs.sk ?_
  refine Gs.sq (Gs.sq ?_)
  refine Gs.rg [0, 1, 5] fun K hK => ?_; simp (maxSteps:=9^7) only [go_sem]
  refine hK _ _ ?_; clear hK K
  refine Gs.bk ?_
  refine Gs.rebase [0, 1, 5, 6] ?_
  simp only [go_sem]
  refine Gs.while (fun (j : Nat) env' σ'' => (j ≤ l.length ∧ (kept p (l.take j)).length < j) ∧ env' = [(0, .own (some b) 1 l.length), (1, .clo (.func g) [] caps), (5, .v (.int .i64 ((kept p (l.take j)).length : Int))), (6, .v (.int .i64 (j : Int)))] ∧ ∃ zs : List ByteArray, zs.length = j - (kept p (l.take j)).length ∧ σ'' = (b, .arr 1 ((midL p l j zs).map sD)) :: ρ) (fun (j : Nat) => l.length - j) (i0 + 1) ⟨⟨by omega, by omega⟩, by rw [hk1, wrap_succ i0 (by omega)], [l[i0]], by rw [hk1]; simp, by rw [hrow]⟩ ?_
  rintro j env' σ'' ⟨⟨hj, hkj⟩, rfl, zs, hz, rfl⟩ ih
  have ih1 := ih
  have hml := midL_len hj hz
  have hmm : ((midL p l j zs).map sD).length = l.length := by rw [List.length_map, hml]
  refine Gs.sq (Gs.sq ?_)
  refine Gs.rg [0, 1, 5, 6] fun K hK => ?_; simp (maxSteps:=9^7) only [go_sem]
  refine hK _ _ ?_; clear hK K
  refine Gs.cond rfl (fun h19 => ?_) (fun h19 => ?_)
  · have hlt : j < l.length := by simpa using h19
    have hg := getD_map_lt sD (midL p l j zs) j (by omega)
    rw [midL_get hlt hz, sD] at hg
    have hg2 := getD_map_lt sD (midL p l j zs) (kept p (l.take j)).length (by omega)
    rw [sD] at hg2
    have hi0 : (0 : Int) ≤ (j : Int) := by omega
    have hi1 : (j : Int) < (l.length : Int) := by omega
    have hi2 : (0 : Int) ≤ ((kept p (l.take j)).length : Int) := by omega
    have hi3 : ((kept p (l.take j)).length : Int) < (l.length : Int) := by omega
    have hi4 : (kept p (l.take j)).length < l.length := by omega
    refine Gs.sk ?_
    refine Gs.sq ?_
    refine Gs.bk ?_
    refine Gs.sq (Gs.rg [0, 1, 5, 6] fun K hK => ?_); simp (maxSteps:=9^7) only [go_sem, hg, hi0, hi1, hmm, hlt]
    refine hK _ _ ?_; clear hK K
    refine Gs.sq (Gs.rg [0, 1, 5, 6, 7] fun K hK => ?_); simp (maxSteps:=9^7) only [go_sem]
    refine ⟨g, (ht _ (SLe.refl ρ)).call, ((ht _ (sle_cons (SLe.refl ρ) hρ)).ans l[j] (List.getElem_mem hlt)).mono ?_⟩
    rintro e σ1 ⟨rfl, rfl⟩
    simp only [go_sem]
    refine hK _ _ ?_; clear hK K
    refine Gs.cond rfl (fun h29 => ?_) (fun h29 => ?_)
    · refine Gs.sq ?_
      refine Gs.rg [0, 1, 5, 6, 7] fun K hK => ?_; simp (maxSteps:=9^7) only [go_sem, hg2, hi2, hi3, hmm, hi4]
      refine hK _ _ ?_; clear hK K
      refine Gs.rg [0, 1, 5, 6] fun K hK => ?_; simp (maxSteps:=9^7) only [go_sem]
      refine hK _ _ ?_; clear hK K
      refine Gs.ib ?_
      refine Gs.rg [0, 1, 5, 6] fun K hK => ?_; simp (maxSteps:=9^7) only [go_sem]
      refine hK _ _ ?_; clear hK K
      refine Gs.rebase [0, 1, 5, 6] ?_
      simp only [go_sem]
      have hpf : p l[j] = false := by simpa using h29
      have e1 : (List.map sD (midL p l j zs)).set (kept p (l.take j)).length (.v (.string l[j])) = (midL p l (j + 1) (zs.drop 1 ++ [l[j]])).map sD := by
        rw [← midL_set hlt hz hkj hpf, List.map_set]; rfl
      have e2 := kept_take_succ (p := p) hlt
      rw [if_neg (by rw [hpf]; simp)] at e2
      rw [e1, wrap_succ j (by omega), wrap_succ _ (by omega)]
      exact ih (j + 1) _ _ ⟨⟨by omega, by rw [e2]; simp; omega⟩, by rw [e2]; simp, zs.drop 1 ++ [l[j]], by rw [e2]; simp [hz]; omega, rfl⟩ (by omega)
    · refine Gs.sk ?_
      refine Gs.ib ?_
      refine Gs.rg [0, 1, 5, 6] fun K hK => ?_; simp (maxSteps:=9^7) only [go_sem]
      refine hK _ _ ?_; clear hK K
      refine Gs.rebase [0, 1, 5, 6] ?_
      simp only [go_sem]
      have hpf : p l[j] = true := by simpa using h29
      have e2 := kept_take_succ (p := p) hlt
      rw [if_pos hpf, List.append_nil] at e2
      rw [wrap_succ j (by omega), midL_skip hlt hpf]
      exact ih (j + 1) _ _ ⟨⟨by omega, by rw [e2]; omega⟩, by rw [e2], zs ++ [l[j]], by rw [e2]; simp [hz]; omega, rfl⟩ (by omega)
  · have hje : j = l.length := by simp at h19; omega
    subst hje
    rw [List.take_length] at hz hkj
    simp only [List.take_length]
    have hi2 : (0 : Int) ≤ ((kept p l).length : Int) := by omega
    have hi3 : ((kept p l).length : Int) ≤ (l.length : Int) := by omega
    have hi4 : ((l.length : Int) - ((kept p l).length : Int)).toNat = l.length - (kept p l).length := by omega
    have hi5 : (kept p l).length + (l.length - (kept p l).length) ≤ l.length := by omega
    refine Gs.exit rfl ?_
    refine Gs.sq (Gs.rg [0, 5] fun K hK => ?_); simp (maxSteps:=9^7) only [go_sem, hi2, hi3, hi4, hmm, hi5, Int.le_refl]
    refine hK _ _ ?_; clear hK K
    refine Gs.sq (Gs.rg [0, 5] fun K hK => ?_); simp (maxSteps:=9^7) only [go_sem, hi2, hi3]
    refine hK _ _ ?_; clear hK K
    refine Gs.ret hC Tryz.func71 (by simp [go_sem]) ?_
    simp only [go_sem]
    refine ⟨l.length - (kept p l).length, ?_⟩
    rw [clear_row_eq hz]
theorem indexFunc_fileO (b n : Nat) (l : List XFile) (g : FuncId) (caps : List D) (p : XFile → Bool) (σ : Store) (hb : sget b σ = some (.arr 2 (l.map XFile.d))) (hn : n = l.length) (hl : l.length < 2 ^ 40) (ht : TestsF caps g p l σ) :
    AC Tryz.prog 65 [.own (some b) 2 n, .clo (.func g) [] caps] σ (fun e σ' => e = .ret (.v (.int .i64 (idxI p l))) ∧ σ' = σ) := by
  subst hn
  have hll : (l.map XFile.d).length = l.length := List.length_map ..
  refine AC.of_body Tryz.func65 rfl Tryz.ntmps65 (by simp) fun C hC => ?_
  refine Gs.sq (Gs.rg [0, 1] fun K hK => ?_); simp (maxSteps:=9^7) only [go_sem]
  refine hK _ _ ?_; clear hK K
  refine Gs.sq (Gs.sq ?_)
  refine Gs.rg [0, 1] fun K hK => ?_; simp (maxSteps:=9^7) only [go_sem]
  refine hK _ _ ?_; clear hK K
  refine Gs.bk ?_
  refine Gs.rebase [0, 1, 7, 8] ?_
  simp only [go_sem]
  refine Gs.while (fun (i : Nat) env' σ'' => (i ≤ l.length ∧ (∀ s ∈ l.take i, p s = false)) ∧ env' = [(0, .own (some b) 2 l.length), (1, .clo (.func g) [] caps), (7, .v (.int .i64 (l.length : Int))), (8, .v (.int .i64 (i : Int)))] ∧ σ = σ'') (fun (i : Nat) => l.length - i) 0 ⟨⟨by omega, by simp⟩, rfl, rfl⟩ ?_
  rintro i env' σ'' ⟨⟨hi, hall⟩, rfl, rfl⟩ ih
  have ih1 := ih
  refine Gs.sq (Gs.rg [0, 1, 7, 8] fun K hK => ?_); simp (maxSteps:=9^7) only [go_sem]
  refine hK _ _ ?_; clear hK K
  refine Gs.sq ?_
  refine Gs.cond rfl (fun h9 => ?_) (fun h9 => ?_)
  · have hlt : i < l.length := by simpa using h9
    have hg := getD_map_lt XFile.d l i hlt
    rw [XFile.d] at hg
    have hi0 : (0 : Int) ≤ (i : Int) := by omega
    have hi1 : (i : Int) < (l.length : Int) := by omega
    refine Gs.sk ?_
    refine Gs.sq ?_
    refine Gs.bk ?_
    refine Gs.sq (Gs.rg [0, 1, 7, 8] fun K hK => ?_); simp (maxSteps:=9^7) only [go_sem]
    refine hK _ _ ?_; clear hK K
    refine Gs.sq (Gs.rg [0, 1, 5, 7, 8] fun K hK => ?_); simp (maxSteps:=9^7) only [go_sem, hg, hi0, hi1, hb, hll, hlt]
    refine ⟨g, ht.call, (ht.ans l[i] (List.getElem_mem hlt)).mono ?_⟩
    rintro e σ1 ⟨rfl, rfl⟩
    simp only [go_sem]
    refine hK _ _ ?_; clear hK K
    refine Gs.cond rfl (fun h16 => ?_) (fun h16 => ?_)
    · refine Gs.sq ?_
      refine Gs.rg [5] fun K hK => ?_; simp (maxSteps:=9^7) only [go_sem]
      refine hK _ _ ?_; clear hK K
      refine Gs.ret hC Tryz.func65 (by simp [go_sem]) ?_
      simp only [go_sem]
      rw [idxI_at hlt hall h16]
    · refine Gs.sk ?_
      refine Gs.ib ?_
      refine Gs.rg [0, 1, 7, 8] fun K hK => ?_; simp (maxSteps:=9^7) only [go_sem]
      refine hK _ _ ?_; clear hK K
      refine Gs.rebase [0, 1, 7, 8] ?_
      simp only [go_sem]
      rw [wrap_succ i (by omega)]
      exact ih (i + 1) _ _ ⟨⟨by omega, take_succ_none hlt hall h16⟩, rfl, rfl⟩ (by omega)
  · have : i = l.length := by simp at h9; omega
    subst this
    rw [List.take_length] at hall
    refine Gs.exit rfl ?_
    refine Gs.sq (Gs.rg [] fun K hK => ?_); simp (maxSteps:=9^7) only [go_sem]
    refine hK _ _ ?_; clear hK K
    refine Gs.ret hC Tryz.func65 (by simp [go_sem]) ?_
    simp only [go_sem]
    rw [idxI_none hall]
theorem deleteFunc_file (b : Nat) (l : List XFile) (g : FuncId) (caps : List D) (p : XFile → Bool) (ρ : Store) (hl : l.length < 2 ^ 40) (hρ : sget b ρ = none) (ht : ∀ τ, SLe ρ τ → TestsF caps g p l τ) :
    AC Tryz.prog 38 [.own (some b) 2 l.length, .clo (.func g) [] caps] ((b, .arr 2 (l.map XFile.d)) :: ρ)
      (fun e σ' => e = .ret (.own (some b) 2 (kept p l).length) ∧ ∃ k, σ' = (b, .arr 2 ((kept p l).map XFile.d ++ List.replicate k (.agg [.v (.string ByteArray.empty), .v (.slice none 0 0)]))) :: ρ) := by
  have hll : (l.map XFile.d).length = l.length := List.length_map ..
  have hb : sget b ((b, AObj.arr 2 (l.map XFile.d)) :: ρ) = some (.arr 2 (l.map XFile.d)) := sget_self ..
  refine AC.of_body Tryz.func38 rfl Tryz.ntmps38 (by simp) fun C hC => ?_
  refine Gs.sq (Gs.rg [0, 1] fun K hK => ?_); simp (maxSteps:=9^7) only [go_sem]
  refine hK _ _ ?_; clear hK K
  refine Gs.sq (Gs.rg [0, 1] fun K hK => ?_); simp (maxSteps:=9^7) only [go_sem]
  refine ⟨_, Tryz.call65, (indexFunc_fileO b l.length l g caps p _ hb rfl hl (ht _ (sle_cons (SLe.refl ρ) hρ))).mono ?_⟩
  rintro e σ1 ⟨rfl, rfl⟩
  simp only [go_sem]
  refine hK _ _ ?_; clear hK K
  refine Gs.sq (Gs.sq ?_)
  rcases idxI_cases p l with ⟨hm, hno⟩ | ⟨i0, hi0, hm, hpre, hp0⟩
  · rw [hm]
    refine Gs.rg [0, 1, 5] fun K hK => ?_; simp (maxSteps:=9^7) only [go_sem]
    refine hK _ _ ?_; clear hK K
    refine Gs.condT rfl ?_
    refine Gs.sq (Gs.rg [0] fun K hK => ?_); simp (maxSteps:=9^7) only [go_sem]
    refine hK _ _ ?_; clear hK K
    refine Gs.ret hC Tryz.func38 (by simp [go_sem]) ?_
    simp only [go_sem]
    rw [kept_none hno]
    exact ⟨rfl, 0, by simp⟩
  rw [hm]
  have hne : ((i0 : Int) == -1) = false := by simp
  obtain ⟨hk1, hrow⟩ := kept_at hi0 hpre hp0
  refine Gs.rg [0, 1, 5] fun K hK => ?_; simp (maxSteps:=9^7) only [go_sem, hne]
  refine hK _ _ ?_; clear hK K
  refine Gs.condF rfl ?_
  refine Gs.sk ?_
  refine Gs.sq (Gs.sq ?_)
  refine Gs.rg [0, 1, 5] fun K hK => ?_; simp (maxSteps:=9^7) only [go_sem]
  refine hK _ _ ?_; clear hK K
  refine Gs.bk ?_
  refine Gs.rebase [0, 1, 5, 6] ?_
  simp only [go_sem]
  refine Gs.while (fun (j : Nat) env' σ'' => (j ≤ l.length ∧ (kept p (l.take j)).length < j) ∧ env' = [(0, .own (some b) 2 l.length), (1, .clo (.func g) [] caps), (5, .v (.int .i64 ((kept p (l.take j)).length : Int))), (6, .v (.int .i64 (j : Int)))] ∧ ∃ zs : List XFile, zs.length = j - (kept p (l.take j)).length ∧ σ'' = (b, .arr 2 ((midL p l j zs).map XFile.d)) :: ρ) (fun (j : Nat) => l.length - j) (i0 + 1) ⟨⟨by omega, by omega⟩, by rw [hk1, wrap_succ i0 (by omega)], [l[i0]], by rw [hk1]; simp, by rw [hrow]⟩ ?_
  rintro j env' σ'' ⟨⟨hj, hkj⟩, rfl, zs, hz, rfl⟩ ih
  have ih1 := ih
  have hml := midL_len hj hz
  have hmm : ((midL p l j zs).map XFile.d).length = l.length := by rw [List.length_map, hml]
  refine Gs.sq (Gs.sq ?_)
  refine Gs.rg [0, 1, 5, 6] fun K hK => ?_; simp (maxSteps:=9^7) only [go_sem]
  refine hK _ _ ?_; clear hK K
  refine Gs.cond rfl (fun h19 => ?_) (fun h19 => ?_)
  · have hlt : j < l.length := by simpa using h19
    have hg := getD_map_lt XFile.d (midL p l j zs) j (by omega)
    rw [midL_get hlt hz, XFile.d] at hg
    have hg2 := getD_map_lt XFile.d (midL p l j zs) (kept p (l.take j)).length (by omega)
    rw [XFile.d] at hg2
    have hi0 : (0 : Int) ≤ (j : Int) := by omega
    have hi1 : (j : Int) < (l.length : Int) := by omega
    have hi2 : (0 : Int) ≤ ((kept p (l.take j)).length : Int) := by omega
    have hi3 : ((kept p (l.take j)).length : Int) < (l.length : Int) := by omega
    have hi4 : (kept p (l.take j)).length < l.length := by omega
    refine Gs.sk ?_
    refine Gs.sq ?_
    refine Gs.bk ?_
    refine Gs.sq (Gs.rg [0, 1, 5, 6] fun K hK => ?_); simp (maxSteps:=9^7) only [go_sem, hg, hi0, hi1, hmm, hlt]
    intro b7 hb7
    have hb7' : sget b7 ρ = none := none_of_sle (sle_cons (SLe.refl ρ) hρ) hb7
    have hsl : ∀ o, SLe ρ ((b7, o) :: (b, AObj.arr 2 (List.map XFile.d (midL p l j zs))) :: ρ) := fun o => sle_cons (sle_cons (SLe.refl ρ) hρ) hb7'
    have hne7 : b ≠ b7 := fun h => by rw [← h, sget_self] at hb7; cases hb7
    refine hK _ _ ?_; clear hK K
    refine Gs.sq (Gs.rg [0, 1, 5, 6, 7] fun K hK => ?_); simp (maxSteps:=9^7) only [go_sem]
    refine ⟨g, (ht _ (SLe.refl ρ)).call, ((ht _ (hsl _)).ans l[j] (List.getElem_mem hlt)).mono ?_⟩
    rintro e σ1 ⟨rfl, rfl⟩
    simp only [go_sem]
    refine hK _ _ ?_; clear hK K
    refine Gs.cond rfl (fun h29 => ?_) (fun h29 => ?_)
    · refine Gs.sq ?_
      refine Gs.rg [0, 1, 5, 6, 7] fun K hK => ?_; simp (maxSteps:=9^7) only [go_sem, hne7, hg2, hi2, hi3, hmm, hi4]
      refine hK _ _ ?_; clear hK K
      refine Gs.rg [0, 1, 5, 6] fun K hK => ?_; simp (maxSteps:=9^7) only [go_sem]
      refine hK _ _ ?_; clear hK K
      refine Gs.ib ?_
      refine Gs.le (ELe.refl _) (sle_cons (SLe.refl _) (by rw [sget_cons, if_neg hne7.symm]; exact hb7')) ?_
      refine Gs.rg [0, 1, 5, 6] fun K hK => ?_; simp (maxSteps:=9^7) only [go_sem]
      refine hK _ _ ?_; clear hK K
      refine Gs.rebase [0, 1, 5, 6] ?_
      simp only [go_sem]
      have hpf : p l[j] = false := by simpa using h29
      have e1 : (List.map XFile.d (midL p l j zs)).set (kept p (l.take j)).length (.agg [.v (.string l[j].name), .slc (l[j].b.map bD)]) = (midL p l (j + 1) (zs.drop 1 ++ [l[j]])).map XFile.d := by
        rw [← midL_set hlt hz hkj hpf, List.map_set]; rfl
      have e2 := kept_take_succ (p := p) hlt
      rw [if_neg (by rw [hpf]; simp)] at e2
      rw [e1, wrap_succ j (by omega), wrap_succ _ (by omega)]
      exact ih (j + 1) _ _ ⟨⟨by omega, by rw [e2]; simp; omega⟩, by rw [e2]; simp, zs.drop 1 ++ [l[j]], by rw [e2]; simp [hz]; omega, rfl⟩ (by omega)
    · refine Gs.sk ?_
      refine Gs.ib ?_
      refine Gs.le (ELe.refl _) (sle_cons (SLe.refl _) (by rw [sget_cons, if_neg hne7.symm]; exact hb7')) ?_
      refine Gs.rg [0, 1, 5, 6] fun K hK => ?_; simp (maxSteps:=9^7) only [go_sem]
      refine hK _ _ ?_; clear hK K
      refine Gs.rebase [0, 1, 5, 6] ?_
      simp only [go_sem]
      have hpf : p l[j] = true := by simpa using h29
      have e2 := kept_take_succ (p := p) hlt
      rw [if_pos hpf, List.append_nil] at e2
      rw [wrap_succ j (by omega), midL_skip hlt hpf]
      exact ih (j + 1) _ _ ⟨⟨by omega, by rw [e2]; omega⟩, by rw [e2], zs ++ [l[j]], by rw [e2]; simp [hz]; omega, rfl⟩ (by omega)
  · have hje : j = l.length := by simp at h19; omega
    subst hje
    rw [List.take_length] at hz hkj
    simp only [List.take_length]
    have hi2 : (0 : Int) ≤ ((kept p l).length : Int) := by omega
    have hi3 : ((kept p l).length : Int) ≤ (l.length : Int) := by omega
    have hi4 : ((l.length : Int) - ((kept p l).length : Int)).toNat = l.length - (kept p l).length := by omega
    have hi5 : (kept p l).length + (l.length - (kept p l).length) ≤ l.length := by omega
    refine Gs.exit rfl ?_
    refine Gs.sq (Gs.rg [0, 5] fun K hK => ?_); simp (maxSteps:=9^7) only [go_sem, hi2, hi3, hi4, hmm, hi5, Int.le_refl]
    refine hK _ _ ?_; clear hK K
    refine Gs.sq (Gs.rg [0, 5] fun K hK => ?_); simp (maxSteps:=9^7) only [go_sem, hi2, hi3]
    refine hK _ _ ?_; clear hK K
    refine Gs.ret hC Tryz.func38 (by simp [go_sem]) ?_
    simp only [go_sem]
    refine ⟨l.length - (kept p l).length, ?_⟩
    rw [clear_row_eq hz]
end Go.Ab.S16
namespace Go.Ab.S16
open Go Go.Proofs Go.Ab.S21
theorem grow_none_str (k : Int) (w : World) (R : Ending → World → Prop) (hk0 : 0 ≤ k) (hk : k < 1048576)
    (h1 : R (.returned (.slice none 0 0)) w)
    (h2 : ∀ (nc : Nat) (z : Array Value), nc ≤ 9223372036854775807 → z.size = nc * 1 → R (.returned (.slice (some ⟨w.heap.size, 0, none⟩) 0 nc)) (w.drew.alloc (.cells z 9))) :
    Calls Tryz.prog 75 #[.slice none 0 0, .int .i64 k] w R := by
  have hb : Tryz.t9.bytes = 16 := rfl
  have hs : Tryz.t9.size = 1 := rfl
  go_enter Tryz.func75, Tryz.ntmps75
  go_wp2
  · rename_i h _ _ _
    have := growslice_fits (need := k.toNat) (old := 0) (bytes := 16) (by omega) (by omega)
    omega
  · have g1 := grownCap_ge w k.toNat 0 9
    have g2 := grownCap_le_maxLen w k.toNat 0 9 (by unfold maxLen; omega)
    unfold grownCap at g1 g2
    unfold maxLen at g2
    generalize (Question.appendCap k.toNat 0 9).cut (w.tape w.drawn (Question.appendCap k.toNat 0 9)) = nc at *
    refine h2 nc _ g2 ?_
    simp [Builtin.zeroCells]; omega
  · exact h1
theorem grow_str (k : Int) (σ : Store) (hk0 : 0 ≤ k) (hk : k < 1048576) :
    AC Tryz.prog 75 [.v (.slice none 0 0), .v (.int .i64 k)] σ (fun e σ' => ∃ o, GrD o 1 [] σ ∧ e = .ret (.own o 1 0) ∧ σ' = cellsOf o 1 [] ++ σ) := by
  intro w S vs hS hst hv
  obtain ⟨v, vs1, rfl, hv1, hv⟩ := hv.cons_inv
  obtain ⟨v2, vs2, rfl, hv2, hv⟩ := hv.cons_inv
  have := hv.nil_inv
  subst this
  have := hv2.v_inv
  subst this
  have := hv1.v_inv
  subst this
  have fresh : sget w.heap.size σ = none := not_sdom_size hst
  refine grow_none_str k w _ hk0 hk ?_ fun nc z h2 h3 => ?_
  · exact ⟨_, σ, S, ⟨none, GrD.nil 1 σ, rfl, rfl⟩, .own0, hst, Fr.refl σ hS.lt⟩
  · refine ⟨_, (w.heap.size, .arr 1 []) :: σ, S, ⟨some w.heap.size, ⟨fresh_some.2 fresh, fun h => by cases h⟩, rfl, rfl⟩, ?_, ?_, fr_drew_alloc hS.lt _ _⟩
    · exact Rep.own (heap_alloc w.drew _) (Nat.zero_le _) (by omega) h2
    · exact store_alloc (w := w.drew) (store_drew hst) hS.lt _ _ ⟨_, 9, 0, 0, [], heap_alloc w.drew _, .nil, by simp, by simp, .inl (Nat.le_refl _)⟩
theorem concat_str (ls : List (List ByteArray)) (σ : Store) (hl : ls.length < 1000) (hs : ∀ l ∈ ls, l.length ≤ 1000) :
    AC Tryz.prog 36 [.slc (ls.map fun l => .slc (l.map sD))] σ (fun e σ' => ∃ o, GrD o 1 (ls.flatten.map sD) σ ∧ e = .ret (.own o 1 (ls.flatten.map sD).length) ∧ σ' = cellsOf o 1 (ls.flatten.map sD) ++ σ) := by
  have hll : (ls.map fun l => D.slc (l.map sD)).length = ls.length := List.length_map ..
  have hsum : ∀ i, (ls.take i).flatten.length ≤ i * 1000 := fun i => by
    have := flatMap_length_le (fun l : List ByteArray => l) 1000 (ls.take i) (fun l hl => hs l (List.mem_of_mem_take hl))
    rw [show (ls.take i).flatMap (fun l => l) = (ls.take i).flatten by simp [List.flatMap_def]] at this
    exact Nat.le_trans this (Nat.mul_le_mul_right _ (by simp; omega))
  have hnext : ∀ i (h : i < ls.length), (ls.take (i + 1)).flatten = (ls.take i).flatten ++ ls[i] := fun i h => by
    rw [List.take_succ_eq_append_getElem h, List.flatten_append, List.flatten_singleton]
  refine AC.of_body Tryz.func36 rfl Tryz.ntmps36 (by simp) fun C hC => ?_
  refine Gs.sq (Gs.rg [0] fun K hK => ?_); simp (maxSteps:=9^7) only [go_sem]
  refine hK _ _ ?_; clear hK K
  refine Gs.sq (Gs.rg [0] fun K hK => ?_); simp (maxSteps:=9^7) only [go_sem]
  refine hK _ _ ?_; clear hK K
  refine Gs.sq (Gs.sq ?_)
  refine Gs.rg [0, 3] fun K hK => ?_; simp (maxSteps:=9^7) only [go_sem]
  refine hK _ _ ?_; clear hK K
  refine Gs.bk ?_
  refine Gs.rebase [0, 3, 9, 10, 11] ?_
  simp only [go_sem]
  refine Gs.while (fun (i : Nat) env' σ'' => (i ≤ ls.length) ∧ env' = [(0, .slc (ls.map fun l => .slc (l.map sD))), (3, .v (.int .i64 ((ls.take i).flatten.length : Int))), (9, .slc (ls.map fun l => .slc (l.map sD))), (10, .v (.int .i64 (ls.length : Int))), (11, .v (.int .i64 (i : Int)))] ∧ σ = σ'') (fun (i : Nat) => ls.length - i) 0 ⟨by omega, by rw [hll]; rfl, rfl⟩ ?_
  rintro i env' σ'' ⟨hi, rfl, rfl⟩ ih
  have ih1 := ih
  refine Gs.sq (Gs.rg [0, 3, 9, 10, 11] fun K hK => ?_); simp (maxSteps:=9^7) only [go_sem]
  refine hK _ _ ?_; clear hK K
  refine Gs.sq ?_
  refine Gs.cond rfl (fun h12 => ?_) (fun h12 => ?_)
  · have hlt : i < ls.length := by simpa using h12
    have hg := getD_map_lt (fun l : List ByteArray => D.slc (l.map sD)) ls i hlt
    have hi0 : (0 : Int) ≤ (i : Int) := by omega
    have hi1 : (i : Int) < ((ls.map fun l => D.slc (l.map sD)).length : Int) := by omega
    have hq := hsum i
    have hq1 := hs _ (List.getElem_mem hlt)
    have hw : IntKind.i64.wrap (((ls.take i).flatten.length : Int) + (ls[i].length : Int)) = ((ls.take (i + 1)).flatten.length : Int) := by
      rw [hnext i hlt, List.length_append, wrap_in _ (by omega) (by omega)]; omega
    have hneg : decide (((ls.take (i + 1)).flatten.length : Int) < 0) = false := by simp
    refine Gs.sk ?_
    refine Gs.sq ?_
    refine Gs.bk ?_
    refine Gs.sq (Gs.rg [0, 3, 9, 10, 11] fun K hK => ?_); simp (maxSteps:=9^7) only [go_sem, hg, hi0, hi1]
    refine hK _ _ ?_; clear hK K
    refine Gs.sq (Gs.rg [0, 3, 5, 9, 10, 11] fun K hK => ?_); simp (maxSteps:=9^7) only [go_sem, List.length_map]
    rw [hw]
    refine hK _ _ ?_; clear hK K
    refine Gs.sq (Gs.rg [0, 3, 9, 10, 11] fun K hK => ?_); simp (maxSteps:=9^7) only [go_sem, hneg]
    refine hK _ _ ?_; clear hK K
    refine Gs.condF rfl ?_
    refine Gs.sk ?_
    refine Gs.ib ?_
    refine Gs.rg [0, 3, 9, 10, 11] fun K hK => ?_; simp (maxSteps:=9^7) only [go_sem]
    refine hK _ _ ?_; clear hK K
    refine Gs.rebase [0, 3, 9, 10, 11] ?_
    simp only [go_sem]
    rw [wrap_succ i (by omega)]
    exact ih (i + 1) _ _ ⟨by omega, rfl, rfl⟩ (by omega)
  · have : i = ls.length := by simp at h12; omega
    subst this
    simp only [List.take_length]
    have hq := hsum ls.length
    rw [List.take_length] at hq
    refine Gs.exit rfl ?_
    refine Gs.sq (Gs.rg [0, 3] fun K hK => ?_); simp (maxSteps:=9^7) only [go_sem]
    refine ⟨_, Tryz.call75, (grow_str _ σ (by omega) (by omega)).mono ?_⟩
    rintro e σ1 ⟨o, hgr, rfl, rfl⟩
    simp only [go_sem]
    refine hK _ _ ?_; clear hK K
    refine Gs.sq (Gs.sq ?_)
    refine Gs.rg [0, 6] fun K hK => ?_; simp (maxSteps:=9^7) only [go_sem]
    refine hK _ _ ?_; clear hK K
    refine Gs.bk ?_
    refine Gs.rebase [6, 25, 26, 27] ?_
    simp only [go_sem]
    refine Gs.while (fun (i : Nat) env' σ'' => ∃ o : Option Nat, (i ≤ ls.length ∧ GrD o 1 ((ls.take i).flatten.map sD) σ) ∧ env' = [(6, .own o 1 ((ls.take i).flatten.map sD).length), (25, .slc (ls.map fun l => .slc (l.map sD))), (26, .v (.int .i64 (ls.length : Int))), (27, .v (.int .i64 (i : Int)))] ∧ σ'' = cellsOf o 1 ((ls.take i).flatten.map sD) ++ σ) (fun (i : Nat) => ls.length - i) 0 ⟨o, ⟨by omega, hgr⟩, by rw [hll]; rfl, rfl⟩ ?_
    rintro i env' σ'' ⟨o, ⟨hi, hgr⟩, rfl, rfl⟩ ih
    have ih2 := ih
    refine Gs.sq (Gs.rg [6, 25, 26, 27] fun K hK => ?_); simp (maxSteps:=9^7) only [go_sem]
    refine hK _ _ ?_; clear hK K
    refine Gs.sq ?_
    refine Gs.cond rfl (fun h28 => ?_) (fun h28 => ?_)
    · have hlt : i < ls.length := by simpa using h28
      have hg := getD_map_lt (fun l : List ByteArray => D.slc (l.map sD)) ls i hlt
      have hi0 : (0 : Int) ≤ (i : Int) := by omega
      have hi1 : (i : Int) < ((ls.map fun l => D.slc (l.map sD)).length : Int) := by omega
      have hq := hsum i
      have hq1 := hs _ (List.getElem_mem hlt)
      have ho := hgr.oget
      have hd := hgr.sdel
      have htk : List.take ((ls.take i).flatten.map sD).length ((ls.take i).flatten.map sD) = (ls.take i).flatten.map sD := List.take_of_length_le (Nat.le_refl _)
      refine Gs.sk ?_
      refine Gs.sq ?_
      refine Gs.bk ?_
      refine Gs.sq (Gs.rg [6, 25, 26, 27] fun K hK => ?_); simp (maxSteps:=9^7) only [go_sem, hg, hi0, hi1]
      refine hK _ _ ?_; clear hK K
      refine Gs.rg [6, 8, 25, 26, 27] fun K hK => ?_; simp (maxSteps:=9^7) only [go_sem, ho, hd, htk]
      refine ⟨⟨Nat.le_refl _, plain_mapF sD 1 (fun _ => ⟨rfl, rfl⟩) _, by simp only [List.length_map]; omega, by simp only [List.length_map]; omega⟩, fun ob hz hf => ?_⟩
      refine hK _ _ ?_; clear hK K
      refine Gs.ib ?_
      refine Gs.rg [6, 25, 26, 27] fun K hK => ?_; simp (maxSteps:=9^7) only [go_sem]
      refine hK _ _ ?_; clear hK K
      refine Gs.rebase [6, 25, 26, 27] ?_
      simp only [go_sem]
      rw [wrap_succ i (by omega), ← List.map_append, ← hnext i hlt]
      refine ih (i + 1) _ _ ⟨ob, ⟨by omega, ?_⟩, rfl, rfl⟩ (by omega)
      rw [hnext i hlt, List.map_append]
      exact hgr.app hz hf
    · have : i = ls.length := by simp at h28; omega
      subst this
      simp only [List.take_length] at *
      refine Gs.exit rfl ?_
      refine Gs.sq (Gs.rg [6] fun K hK => ?_); simp (maxSteps:=9^7) only [go_sem]
      refine hK _ _ ?_; clear hK K
      refine Gs.ret hC Tryz.func36 (by simp [go_sem]) ?_
      simp only [go_sem]
      exact ⟨o, hgr, rfl, rfl⟩
theorem concat_str_slc (ls : List (List ByteArray)) (σ : Store) (hl : ls.length < 1000) (hs : ∀ l ∈ ls, l.length ≤ 1000) :
    AC Tryz.prog 36 [.slc (ls.map fun l => .slc (l.map sD))] σ (fun e σ' => e = .ret (.slc (ls.flatten.map sD)) ∧ σ' = σ) :=
  AC.pubOwn ((concat_str ls [] hl hs).mono fun e σ' h => h) σ
theorem grow_none_file (k : Int) (w : World) (R : Ending → World → Prop) (hk0 : 0 ≤ k) (hk : k < 1048576)
    (h1 : R (.returned (.slice none 0 0)) w)
    (h2 : ∀ (nc : Nat) (z : Array Value), nc ≤ 9223372036854775807 → z.size = nc * 2 → R (.returned (.slice (some ⟨w.heap.size, 0, none⟩) 0 nc)) (w.drew.alloc (.cells z 56))) :
    Calls Tryz.prog 76 #[.slice none 0 0, .int .i64 k] w R := by
  have hb : Tryz.t56.bytes = 40 := rfl
  have hs : Tryz.t56.size = 2 := rfl
  go_enter Tryz.func76, Tryz.ntmps76
  go_wp2
  · rename_i h _ _ _
    have := growslice_fits (need := k.toNat) (old := 0) (bytes := 40) (by omega) (by omega)
    omega
  · have g1 := grownCap_ge w k.toNat 0 56
    have g2 := grownCap_le_maxLen w k.toNat 0 56 (by unfold maxLen; omega)
    unfold grownCap at g1 g2
    unfold maxLen at g2
    generalize (Question.appendCap k.toNat 0 56).cut (w.tape w.drawn (Question.appendCap k.toNat 0 56)) = nc at *
    refine h2 nc _ g2 ?_
    simp [Builtin.zeroCells]; omega
  · exact h1
theorem grow_file (k : Int) (σ : Store) (hk0 : 0 ≤ k) (hk : k < 1048576) :
    AC Tryz.prog 76 [.v (.slice none 0 0), .v (.int .i64 k)] σ (fun e σ' => ∃ o, GrD o 2 [] σ ∧ e = .ret (.own o 2 0) ∧ σ' = cellsOf o 2 [] ++ σ) := by
  intro w S vs hS hst hv
  obtain ⟨v, vs1, rfl, hv1, hv⟩ := hv.cons_inv
  obtain ⟨v2, vs2, rfl, hv2, hv⟩ := hv.cons_inv
  have := hv.nil_inv
  subst this
  have := hv2.v_inv
  subst this
  have := hv1.v_inv
  subst this
  have fresh : sget w.heap.size σ = none := not_sdom_size hst
  refine grow_none_file k w _ hk0 hk ?_ fun nc z h2 h3 => ?_
  · exact ⟨_, σ, S, ⟨none, GrD.nil 2 σ, rfl, rfl⟩, .own0, hst, Fr.refl σ hS.lt⟩
  · refine ⟨_, (w.heap.size, .arr 2 []) :: σ, S, ⟨some w.heap.size, ⟨fresh_some.2 fresh, fun h => by cases h⟩, rfl, rfl⟩, ?_, ?_, fr_drew_alloc hS.lt _ _⟩
    · exact Rep.own (heap_alloc w.drew _) (Nat.zero_le _) (by omega) h2
    · exact store_alloc (w := w.drew) (store_drew hst) hS.lt _ _ ⟨_, 56, 0, 0, [], heap_alloc w.drew _, .nil, by simp, by simp, .inl (Nat.le_refl _)⟩
end Go.Ab.S16
namespace Go.Proofs
open Go.Shelf
def Tryz.lays156_ren : Go.Shelf.Ren := ⟨fun | 156 => 114 | 165 => 139 | 166 => 140 | 169 => 141 | 240 => 169 | 241 => 170 | 276 => 197 | 277 => 198 | n => n, fun | 31 => 23 | 9 => 9 | 3 => 3 | 4 => 4 | 0 => 0 | 20 => 20 | 72 => 189 | 76 => 193 | 70 => 187 | 37 => 52 | 75 => 192 | 127 => 221 | 164 => 246 | 5 => 5 | 80 => 195 | n => n, fun | n => n⟩
theorem Tryz.lays156 : Go.Proofs.Lays.n156 Tryz.prog Tryz.lays156_ren := {
  mixed := by kernel_rfl
  f156 := Tryz.func114.trans (congrArg some (by kernel_rfl))
  f165 := Tryz.func139.trans (congrArg some (by kernel_rfl))
  f166 := Tryz.func140.trans (congrArg some (by kernel_rfl))
  f169 := Tryz.func141.trans (congrArg some (by kernel_rfl))
  f240 := Tryz.func169.trans (congrArg some (by kernel_rfl))
  f241 := Tryz.func170.trans (congrArg some (by kernel_rfl))
  f276 := Tryz.func197.trans (congrArg some (by kernel_rfl))
  f277 := Tryz.func198.trans (congrArg some (by kernel_rfl))
  t0 := Tryz.underlying0
  a0 := Tryz.isAgg0
  z0 := Tryz.sizeOf0
  v0 := Tryz.zeroValue0
  t3 := Tryz.underlying3
  a3 := Tryz.isAgg3
  z3 := Tryz.sizeOf3
  v3 := Tryz.zeroValue3
  t4 := Tryz.underlying4
  a4 := Tryz.isAgg4
  z4 := Tryz.sizeOf4
  v4 := Tryz.zeroValue4
  t9 := Tryz.underlying9
  a9 := Tryz.isAgg9
  z9 := Tryz.sizeOf9
  v9 := Tryz.zeroValue9
  t20 := Tryz.underlying20
  a20 := Tryz.isAgg20
  z20 := Tryz.sizeOf20
  v20 := Tryz.zeroValue20
  t31 := Tryz.underlying23
  a31 := Tryz.isAgg23
  z31 := Tryz.sizeOf23
  v31 := Tryz.zeroValue23
  t37 := Tryz.underlying52
  a37 := Tryz.isAgg52
  z37 := Tryz.sizeOf52
  v37 := Tryz.zeroValue52
  t70 := Tryz.underlying187
  a70 := Tryz.isAgg187
  z70 := Tryz.sizeOf187
  v70 := Tryz.zeroValue187
  t72 := Tryz.underlying189
  a72 := Tryz.isAgg189
  z72 := Tryz.sizeOf189
  v72 := Tryz.zeroValue189
  t75 := Tryz.underlying192
  a75 := Tryz.isAgg192
  z75 := Tryz.sizeOf192
  v75 := Tryz.zeroValue192
  t76 := Tryz.underlying193
  a76 := Tryz.isAgg193
  z76 := Tryz.sizeOf193
  v76 := Tryz.zeroValue193
  t127 := Tryz.underlying221
  a127 := Tryz.isAgg221
  z127 := Tryz.sizeOf221
  v127 := Tryz.zeroValue221
  t164 := Tryz.underlying246
  a164 := Tryz.isAgg246
  z164 := Tryz.sizeOf246
  v164 := Tryz.zeroValue246 }
theorem Tryz.Builder_Extra_156 : Builder.Extra Tryz.prog Tryz.lays156_ren := {
  sizeBuilder := by kernel_rfl
  liesBuilder := by kernel_rfl
  t5 := Tryz.underlying5
  a5 := Tryz.isAgg5
  z5 := Tryz.sizeOf5
  v5 := Tryz.zeroValue5
  infoByte := by kernel_rfl
  cellsByte := by kernel_rfl
  sizeByte := by kernel_rfl
  neB5 := by decide }
open Go.RowKit in
theorem Tryz.strings_Join_none (a : Option Addr) (c : Nat) (sep : ByteArray) (w : World) :
    Calls Tryz.prog 114 #[.slice a 0 c, .string sep] w fun e w' => e = .returned (.string ⟨#[]⟩) ∧ w' = w := Any.strings_Join_none Tryz.lays156 Tryz.Builder_Extra_156 a c sep w
open Go.RowKit in
theorem Tryz.strings_Join (bk o c : Nat) (xs : List ByteArray) (sep : ByteArray) (w : World) (hcells : ∀ (j : Nat) x, xs[j]? = some x → w.cell? ⟨bk, o + j, none⟩ = some (.string x)) (hbk : bk < w.heap.size) (hN : xs.length ≤ 140737488355328) (hcap : xs.length ≤ c) (hlen : (Lib.join (xs.map (·.data.toList)) sep.data.toList).length ≤ 140737488355328) :
    Calls Tryz.prog 114 #[.slice (some ⟨bk, o, none⟩) xs.length c, .string sep] w fun e w' => e = .returned (.string ⟨(Lib.join (xs.map (·.data.toList)) sep.data.toList).toArray⟩) ∧ Below w.heap.size w w' := Any.strings_Join Tryz.lays156 Tryz.Builder_Extra_156 bk o c xs sep w hcells hbk hN hcap hlen
def Tryz.lays119_ren : Go.Shelf.Ren := ⟨fun | 119 => 218 | n => n, fun | 21 => 21 | 4 => 4 | n => n, fun | n => n⟩
theorem Tryz.lays119 : Go.Proofs.Lays.n119 Tryz.prog Tryz.lays119_ren := {
  mixed := by kernel_rfl
  f119 := Tryz.func218.trans (congrArg some (by kernel_rfl))
  t4 := Tryz.underlying4
  a4 := Tryz.isAgg4
  z4 := Tryz.sizeOf4
  v4 := Tryz.zeroValue4
  t21 := Tryz.underlying21
  a21 := Tryz.isAgg21
  z21 := Tryz.sizeOf21
  v21 := Tryz.zeroValue21 }
theorem Tryz.utf8_ValidRune (r : Int) (w : World) :
    Calls Tryz.prog 218 #[.int .i32 r] w fun e w' => e = .returned (.bool (Lib.validRune r)) ∧ w' = w := Any.utf8_ValidRune Tryz.lays119 r w
def Tryz.lays137_ren : Go.Shelf.Ren := ⟨fun | 137 => 217 | 217 => 221 | 266 => 223 | n => n, fun | 9 => 9 | 5 => 5 | 3 => 3 | n => n, fun | n => n⟩
theorem Tryz.lays137 : Go.Proofs.Lays.n137 Tryz.prog Tryz.lays137_ren := {
  mixed := by kernel_rfl
  f137 := Tryz.func217.trans (congrArg some (by kernel_rfl))
  f217 := Tryz.func221.trans (congrArg some (by kernel_rfl))
  f266 := Tryz.func223.trans (congrArg some (by kernel_rfl))
  t3 := Tryz.underlying3
  a3 := Tryz.isAgg3
  z3 := Tryz.sizeOf3
  v3 := Tryz.zeroValue3
  t5 := Tryz.underlying5
  a5 := Tryz.isAgg5
  z5 := Tryz.sizeOf5
  v5 := Tryz.zeroValue5
  t9 := Tryz.underlying9
  a9 := Tryz.isAgg9
  z9 := Tryz.sizeOf9
  v9 := Tryz.zeroValue9 }
open Go.RowKit in
theorem Tryz.strings_IndexByte (s : ByteArray) (c : Int) (w : World) :
    Calls Tryz.prog 217 #[.string s, .int .u8 c] w fun e w' => e = .returned (.int .i64 (Lib.indexByte s.data.toList c.toNat.toUInt8)) ∧ w' = w := Any.strings_IndexByte Tryz.lays137 s c w
def Tryz.lays103_ren : Go.Shelf.Ren := ⟨fun | 103 => 164 | 210 => 194 | 206 => 192 | n => n, fun | 9 => 9 | 4 => 4 | 24 => 198 | 3 => 3 | n => n, fun | n => n⟩
theorem Tryz.lays103 : Go.Proofs.Lays.n103 Tryz.prog Tryz.lays103_ren := {
  mixed := by kernel_rfl
  f103 := Tryz.func164.trans (congrArg some (by kernel_rfl))
  f206 := Tryz.func192.trans (congrArg some (by kernel_rfl))
  f210 := Tryz.func194.trans (congrArg some (by kernel_rfl))
  t3 := Tryz.underlying3
  a3 := Tryz.isAgg3
  z3 := Tryz.sizeOf3
  v3 := Tryz.zeroValue3
  t4 := Tryz.underlying4
  a4 := Tryz.isAgg4
  z4 := Tryz.sizeOf4
  v4 := Tryz.zeroValue4
  t9 := Tryz.underlying9
  a9 := Tryz.isAgg9
  z9 := Tryz.sizeOf9
  v9 := Tryz.zeroValue9
  t24 := Tryz.underlying198
  a24 := Tryz.isAgg198
  z24 := Tryz.sizeOf198
  v24 := Tryz.zeroValue198 }
open Go.RowKit in
theorem Tryz.strings_CutPrefix (s p : ByteArray) (w : World) :
    Calls Tryz.prog 164 #[.string s, .string p] w fun e w' => e = .returned (.tuple #[.string ⟨(Lib.trimPrefix s.data.toList p.data.toList).toArray⟩, .bool (Lib.hasPrefix s.data.toList p.data.toList)]) ∧ w' = w := Any.strings_CutPrefix Tryz.lays103 s p w
def Tryz.lays143_ren : Go.Shelf.Ren := ⟨fun | 143 => 210 | 219 => 216 | 217 => 221 | 225 => 220 | 224 => 219 | 267 => 222 | 266 => 223 | 314 => 224 | n => n, fun | 9 => 9 | 3 => 3 | 4 => 4 | 5 => 5 | 46 => 146 | 146 => 239 | 51 => 208 | n => n, fun | 1 => 1 | n => n⟩
theorem Tryz.lays143 : Go.Proofs.Lays.n143 Tryz.prog Tryz.lays143_ren := {
  mixed := by kernel_rfl
  f143 := Tryz.func210.trans (congrArg some (by kernel_rfl))
  f217 := Tryz.func221.trans (congrArg some (by kernel_rfl))
  f219 := Tryz.func216.trans (congrArg some (by kernel_rfl))
  f224 := Tryz.func219.trans (congrArg some (by kernel_rfl))
  f225 := Tryz.func220.trans (congrArg some (by kernel_rfl))
  f266 := Tryz.func223.trans (congrArg some (by kernel_rfl))
  f267 := Tryz.func222.trans (congrArg some (by kernel_rfl))
  f314 := Tryz.func224.trans (congrArg some (by kernel_rfl))
  t3 := Tryz.underlying3
  a3 := Tryz.isAgg3
  z3 := Tryz.sizeOf3
  v3 := Tryz.zeroValue3
  t4 := Tryz.underlying4
  a4 := Tryz.isAgg4
  z4 := Tryz.sizeOf4
  v4 := Tryz.zeroValue4
  t5 := Tryz.underlying5
  a5 := Tryz.isAgg5
  z5 := Tryz.sizeOf5
  v5 := Tryz.zeroValue5
  t9 := Tryz.underlying9
  a9 := Tryz.isAgg9
  z9 := Tryz.sizeOf9
  v9 := Tryz.zeroValue9
  t46 := Tryz.underlying146
  a46 := Tryz.isAgg146
  z46 := Tryz.sizeOf146
  v46 := Tryz.zeroValue146
  t51 := Tryz.underlying208
  a51 := Tryz.isAgg208
  z51 := Tryz.sizeOf208
  v51 := Tryz.zeroValue208
  t146 := Tryz.underlying239
  a146 := Tryz.isAgg239
  z146 := Tryz.sizeOf239
  v146 := Tryz.zeroValue239
  g1 := by kernel_rfl }
open Go.RowKit Go.Lib in
theorem Tryz.strings_Index_one (s : ByteArray) (c : UInt8) (w : World) :
    Calls Tryz.prog 210 #[.string s, .string ⟨#[c]⟩] w fun e w' => e = .returned (.int .i64 (Lib.indexByte s.data.toList c)) ∧ w' = w := Any.strings_Index_one Tryz.lays143 s c w
def Tryz.lays189_ren : Go.Shelf.Ren := ⟨fun | 189 => 128 | 125 => 124 | 257 => 156 | 128 => 152 | 129 => 153 | 294 => 177 | 295 => 178 | 296 => 179 | 297 => 180 | 298 => 181 | 299 => 182 | 216 => 183 | 300 => 184 | 301 => 185 | 328 => 200 | 329 => 173 | 330 => 174 | 331 => 201 | 332 => 202 | 215 => 203 | 343 => 212 | n => n, fun | 28 => 72 | 3 => 3 | 46 => 146 | 0 => 0 | 51 => 208 | 53 => 170 | 4 => 4 | 183 => 202 | 182 => 201 | 131 => 75 | 5 => 5 | 9 => 9 | 218 => 223 | 222 => 173 | 228 => 249 | 229 => 250 | n => n, fun | n => n⟩
theorem Tryz.lays189 : Go.Proofs.Lays.n189 Tryz.prog Tryz.lays189_ren := {
  mixed := by kernel_rfl
  f125 := Tryz.func124.trans (congrArg some (by kernel_rfl))
  f128 := Tryz.func152.trans (congrArg some (by kernel_rfl))
  f129 := Tryz.func153.trans (congrArg some (by kernel_rfl))
  f189 := Tryz.func128.trans (congrArg some (by kernel_rfl))
  f215 := Tryz.func203.trans (congrArg some (by kernel_rfl))
  f216 := Tryz.func183.trans (congrArg some (by kernel_rfl))
  f257 := Tryz.func156.trans (congrArg some (by kernel_rfl))
  f294 := Tryz.func177.trans (congrArg some (by kernel_rfl))
  f295 := Tryz.func178.trans (congrArg some (by kernel_rfl))
  f296 := Tryz.func179.trans (congrArg some (by kernel_rfl))
  f297 := Tryz.func180.trans (congrArg some (by kernel_rfl))
  f298 := Tryz.func181.trans (congrArg some (by kernel_rfl))
  f299 := Tryz.func182.trans (congrArg some (by kernel_rfl))
  f300 := Tryz.func184.trans (congrArg some (by kernel_rfl))
  f301 := Tryz.func185.trans (congrArg some (by kernel_rfl))
  f328 := Tryz.func200.trans (congrArg some (by kernel_rfl))
  f329 := Tryz.func173.trans (congrArg some (by kernel_rfl))
  f330 := Tryz.func174.trans (congrArg some (by kernel_rfl))
  f331 := Tryz.func201.trans (congrArg some (by kernel_rfl))
  f332 := Tryz.func202.trans (congrArg some (by kernel_rfl))
  f343 := Tryz.func212.trans (congrArg some (by kernel_rfl))
  t0 := Tryz.underlying0
  a0 := Tryz.isAgg0
  z0 := Tryz.sizeOf0
  v0 := Tryz.zeroValue0
  t3 := Tryz.underlying3
  a3 := Tryz.isAgg3
  z3 := Tryz.sizeOf3
  v3 := Tryz.zeroValue3
  t4 := Tryz.underlying4
  a4 := Tryz.isAgg4
  z4 := Tryz.sizeOf4
  v4 := Tryz.zeroValue4
  t5 := Tryz.underlying5
  a5 := Tryz.isAgg5
  z5 := Tryz.sizeOf5
  v5 := Tryz.zeroValue5
  t9 := Tryz.underlying9
  a9 := Tryz.isAgg9
  z9 := Tryz.sizeOf9
  v9 := Tryz.zeroValue9
  t28 := Tryz.underlying72
  a28 := Tryz.isAgg72
  z28 := Tryz.sizeOf72
  v28 := Tryz.zeroValue72
  t46 := Tryz.underlying146
  a46 := Tryz.isAgg146
  z46 := Tryz.sizeOf146
  v46 := Tryz.zeroValue146
  t51 := Tryz.underlying208
  a51 := Tryz.isAgg208
  z51 := Tryz.sizeOf208
  v51 := Tryz.zeroValue208
  t53 := Tryz.underlying170
  a53 := Tryz.isAgg170
  z53 := Tryz.sizeOf170
  v53 := Tryz.zeroValue170
  t131 := Tryz.underlying75
  a131 := Tryz.isAgg75
  z131 := Tryz.sizeOf75
  v131 := Tryz.zeroValue75
  t182 := Tryz.underlying201
  a182 := Tryz.isAgg201
  z182 := Tryz.sizeOf201
  v182 := Tryz.zeroValue201
  t183 := Tryz.underlying202
  a183 := Tryz.isAgg202
  z183 := Tryz.sizeOf202
  v183 := Tryz.zeroValue202
  t218 := Tryz.underlying223
  a218 := Tryz.isAgg223
  z218 := Tryz.sizeOf223
  v218 := Tryz.zeroValue223
  t222 := Tryz.underlying173
  a222 := Tryz.isAgg173
  z222 := Tryz.sizeOf173
  v222 := Tryz.zeroValue173
  t228 := Tryz.underlying249
  a228 := Tryz.isAgg249
  z228 := Tryz.sizeOf249
  v228 := Tryz.zeroValue249
  t229 := Tryz.underlying250
  a229 := Tryz.isAgg250
  z229 := Tryz.sizeOf250
  v229 := Tryz.zeroValue250 }
open Go.Sort Go.RowKit in
theorem Tryz.slices_Sort_int (blk off cap : Nat) (zs : List Int) (w : World) (hH : Holds (Value.int .i64) w blk off zs.toArray) (hblk : blk < w.heap.size) (hsz : zs.length < 4611686018427387904) :
    Calls Tryz.prog 128 #[.slice (some ⟨blk, off, none⟩) zs.length cap] w fun e w' =>
      e = .returned (.tuple #[]) ∧ ∃ n os, w' = grow (putRow (Value.int .i64) (Sort.ahead w n) blk off (zs.mergeSort fun x y => decide (x ≤ y)).toArray) os := Any.slices_Sort_int Tryz.lays189 blk off cap zs w hH hblk hsz
def Tryz.lays190_ren : Go.Shelf.Ren := ⟨fun | 190 => 94 | 125 => 124 | 258 => 123 | 128 => 152 | 129 => 153 | 302 => 144 | 303 => 145 | 304 => 146 | 305 => 147 | 306 => 148 | 307 => 149 | 308 => 92 | 309 => 150 | 310 => 151 | 333 => 172 | 329 => 173 | 330 => 174 | 334 => 175 | 335 => 176 | 336 => 122 | 344 => 199 | n => n, fun | 31 => 23 | 9 => 9 | 3 => 3 | 46 => 146 | 0 => 0 | 51 => 208 | 53 => 170 | 4 => 4 | 183 => 202 | 182 => 201 | 131 => 75 | 5 => 5 | 218 => 223 | 222 => 173 | 228 => 249 | 229 => 250 | n => n, fun | n => n⟩
theorem Tryz.lays190 : Go.Proofs.Lays.n190 Tryz.prog Tryz.lays190_ren := {
  mixed := by kernel_rfl
  f125 := Tryz.func124.trans (congrArg some (by kernel_rfl))
  f128 := Tryz.func152.trans (congrArg some (by kernel_rfl))
  f129 := Tryz.func153.trans (congrArg some (by kernel_rfl))
  f190 := Tryz.func94.trans (congrArg some (by kernel_rfl))
  f258 := Tryz.func123.trans (congrArg some (by kernel_rfl))
  f302 := Tryz.func144.trans (congrArg some (by kernel_rfl))
  f303 := Tryz.func145.trans (congrArg some (by kernel_rfl))
  f304 := Tryz.func146.trans (congrArg some (by kernel_rfl))
  f305 := Tryz.func147.trans (congrArg some (by kernel_rfl))
  f306 := Tryz.func148.trans (congrArg some (by kernel_rfl))
  f307 := Tryz.func149.trans (congrArg some (by kernel_rfl))
  f308 := Tryz.func92.trans (congrArg some (by kernel_rfl))
  f309 := Tryz.func150.trans (congrArg some (by kernel_rfl))
  f310 := Tryz.func151.trans (congrArg some (by kernel_rfl))
  f329 := Tryz.func173.trans (congrArg some (by kernel_rfl))
  f330 := Tryz.func174.trans (congrArg some (by kernel_rfl))
  f333 := Tryz.func172.trans (congrArg some (by kernel_rfl))
  f334 := Tryz.func175.trans (congrArg some (by kernel_rfl))
  f335 := Tryz.func176.trans (congrArg some (by kernel_rfl))
  f336 := Tryz.func122.trans (congrArg some (by kernel_rfl))
  f344 := Tryz.func199.trans (congrArg some (by kernel_rfl))
  t0 := Tryz.underlying0
  a0 := Tryz.isAgg0
  z0 := Tryz.sizeOf0
  v0 := Tryz.zeroValue0
  t3 := Tryz.underlying3
  a3 := Tryz.isAgg3
  z3 := Tryz.sizeOf3
  v3 := Tryz.zeroValue3
  t4 := Tryz.underlying4
  a4 := Tryz.isAgg4
  z4 := Tryz.sizeOf4
  v4 := Tryz.zeroValue4
  t5 := Tryz.underlying5
  a5 := Tryz.isAgg5
  z5 := Tryz.sizeOf5
  v5 := Tryz.zeroValue5
  t9 := Tryz.underlying9
  a9 := Tryz.isAgg9
  z9 := Tryz.sizeOf9
  v9 := Tryz.zeroValue9
  t31 := Tryz.underlying23
  a31 := Tryz.isAgg23
  z31 := Tryz.sizeOf23
  v31 := Tryz.zeroValue23
  t46 := Tryz.underlying146
  a46 := Tryz.isAgg146
  z46 := Tryz.sizeOf146
  v46 := Tryz.zeroValue146
  t51 := Tryz.underlying208
  a51 := Tryz.isAgg208
  z51 := Tryz.sizeOf208
  v51 := Tryz.zeroValue208
  t53 := Tryz.underlying170
  a53 := Tryz.isAgg170
  z53 := Tryz.sizeOf170
  v53 := Tryz.zeroValue170
  t131 := Tryz.underlying75
  a131 := Tryz.isAgg75
  z131 := Tryz.sizeOf75
  v131 := Tryz.zeroValue75
  t182 := Tryz.underlying201
  a182 := Tryz.isAgg201
  z182 := Tryz.sizeOf201
  v182 := Tryz.zeroValue201
  t183 := Tryz.underlying202
  a183 := Tryz.isAgg202
  z183 := Tryz.sizeOf202
  v183 := Tryz.zeroValue202
  t218 := Tryz.underlying223
  a218 := Tryz.isAgg223
  z218 := Tryz.sizeOf223
  v218 := Tryz.zeroValue223
  t222 := Tryz.underlying173
  a222 := Tryz.isAgg173
  z222 := Tryz.sizeOf173
  v222 := Tryz.zeroValue173
  t228 := Tryz.underlying249
  a228 := Tryz.isAgg249
  z228 := Tryz.sizeOf249
  v228 := Tryz.zeroValue249
  t229 := Tryz.underlying250
  a229 := Tryz.isAgg250
  z229 := Tryz.sizeOf250
  v229 := Tryz.zeroValue250 }
open Go.Sort Go.RowKit in
theorem Tryz.slices_Sort_string (blk off cap : Nat) (ss : List (List UInt8)) (w : World) (hH : Holds encStr w blk off ss.toArray) (hblk : blk < w.heap.size) (hsz : ss.length < 4611686018427387904) :
    Calls Tryz.prog 94 #[.slice (some ⟨blk, off, none⟩) ss.length cap] w fun e w' =>
      e = .returned (.tuple #[]) ∧ ∃ n os, w' = grow (putRow encStr (Sort.ahead w n) blk off (ss.mergeSort fun x y => decide (x ≤ y)).toArray) os := Any.slices_Sort_string Tryz.lays190 blk off cap ss w hH hblk hsz
def Tryz.lays99_ren : Go.Shelf.Ren := ⟨fun | 99 => 161 | 206 => 192 | n => n, fun | 9 => 9 | 4 => 4 | 3 => 3 | n => n, fun | n => n⟩
theorem Tryz.lays99 : Go.Proofs.Lays.n99 Tryz.prog Tryz.lays99_ren := {
  mixed := by kernel_rfl
  f99 := Tryz.func161.trans (congrArg some (by kernel_rfl))
  f206 := Tryz.func192.trans (congrArg some (by kernel_rfl))
  t3 := Tryz.underlying3
  a3 := Tryz.isAgg3
  z3 := Tryz.sizeOf3
  v3 := Tryz.zeroValue3
  t4 := Tryz.underlying4
  a4 := Tryz.isAgg4
  z4 := Tryz.sizeOf4
  v4 := Tryz.zeroValue4
  t9 := Tryz.underlying9
  a9 := Tryz.isAgg9
  z9 := Tryz.sizeOf9
  v9 := Tryz.zeroValue9 }
open Go.RowKit Go.Lib in
theorem Tryz.strings_HasPrefix (s p : ByteArray) (w : World) :
    Calls Tryz.prog 161 #[.string s, .string p] w fun e w' => e = .returned (.bool (Lib.hasPrefix s.data.toList p.data.toList)) ∧ w' = w := Any.strings_HasPrefix Tryz.lays99 s p w
def Tryz.lays151_ren : Go.Shelf.Ren := ⟨fun | 151 => 196 | 152 => 211 | 137 => 217 | 119 => 218 | 224 => 219 | 225 => 220 | 217 => 221 | 266 => 223 | n => n, fun | 9 => 9 | 21 => 21 | 4 => 4 | 3 => 3 | 5 => 5 | 0 => 0 | 46 => 146 | n => n, fun | n => n⟩
theorem Tryz.lays151 : Go.Proofs.Lays.n151 Tryz.prog Tryz.lays151_ren := {
  mixed := by kernel_rfl
  f119 := Tryz.func218.trans (congrArg some (by kernel_rfl))
  f137 := Tryz.func217.trans (congrArg some (by kernel_rfl))
  f151 := Tryz.func196.trans (congrArg some (by kernel_rfl))
  f152 := Tryz.func211.trans (congrArg some (by kernel_rfl))
  f217 := Tryz.func221.trans (congrArg some (by kernel_rfl))
  f224 := Tryz.func219.trans (congrArg some (by kernel_rfl))
  f225 := Tryz.func220.trans (congrArg some (by kernel_rfl))
  f266 := Tryz.func223.trans (congrArg some (by kernel_rfl))
  t0 := Tryz.underlying0
  a0 := Tryz.isAgg0
  z0 := Tryz.sizeOf0
  v0 := Tryz.zeroValue0
  t3 := Tryz.underlying3
  a3 := Tryz.isAgg3
  z3 := Tryz.sizeOf3
  v3 := Tryz.zeroValue3
  t4 := Tryz.underlying4
  a4 := Tryz.isAgg4
  z4 := Tryz.sizeOf4
  v4 := Tryz.zeroValue4
  t5 := Tryz.underlying5
  a5 := Tryz.isAgg5
  z5 := Tryz.sizeOf5
  v5 := Tryz.zeroValue5
  t9 := Tryz.underlying9
  a9 := Tryz.isAgg9
  z9 := Tryz.sizeOf9
  v9 := Tryz.zeroValue9
  t21 := Tryz.underlying21
  a21 := Tryz.isAgg21
  z21 := Tryz.sizeOf21
  v21 := Tryz.zeroValue21
  t46 := Tryz.underlying146
  a46 := Tryz.isAgg146
  z46 := Tryz.sizeOf146
  v46 := Tryz.zeroValue146 }
open Go.RowKit Go.Lib in
theorem Tryz.strings_ContainsRune_ascii (s : ByteArray) (r : Int) (w : World) (h0 : 0 ≤ r) (h1 : r < 128) :
    Calls Tryz.prog 196 #[.string s, .int .i32 r] w fun e w' => e = .returned (.bool (decide (0 ≤ Lib.indexByte s.data.toList r.toNat.toUInt8))) ∧ w' = w := Any.strings_ContainsRune_ascii Tryz.lays151 s r w h0 h1
def Tryz.lays105_ren : Go.Shelf.Ren := ⟨fun | 105 => 136 | 212 => 160 | 99 => 161 | 165 => 139 | 166 => 140 | 170 => 162 | 169 => 141 | 263 => 190 | 264 => 191 | 206 => 192 | 240 => 169 | 241 => 170 | 276 => 197 | 277 => 198 | n => n, fun | 9 => 9 | 3 => 3 | 4 => 4 | 20 => 20 | 0 => 0 | 46 => 146 | 109 => 215 | 5 => 5 | 72 => 189 | 76 => 193 | 51 => 208 | 146 => 239 | 53 => 170 | 148 => 241 | 70 => 187 | 37 => 52 | 75 => 192 | 127 => 221 | 164 => 246 | 80 => 195 | n => n, fun | n => n⟩
theorem Tryz.lays105 : Go.Proofs.Lays.n105 Tryz.prog Tryz.lays105_ren := {
  mixed := by kernel_rfl
  f99 := Tryz.func161.trans (congrArg some (by kernel_rfl))
  f105 := Tryz.func136.trans (congrArg some (by kernel_rfl))
  f165 := Tryz.func139.trans (congrArg some (by kernel_rfl))
  f166 := Tryz.func140.trans (congrArg some (by kernel_rfl))
  f169 := Tryz.func141.trans (congrArg some (by kernel_rfl))
  f170 := Tryz.func162.trans (congrArg some (by kernel_rfl))
  f206 := Tryz.func192.trans (congrArg some (by kernel_rfl))
  f212 := Tryz.func160.trans (congrArg some (by kernel_rfl))
  f240 := Tryz.func169.trans (congrArg some (by kernel_rfl))
  f241 := Tryz.func170.trans (congrArg some (by kernel_rfl))
  f263 := Tryz.func190.trans (congrArg some (by kernel_rfl))
  f264 := Tryz.func191.trans (congrArg some (by kernel_rfl))
  f276 := Tryz.func197.trans (congrArg some (by kernel_rfl))
  f277 := Tryz.func198.trans (congrArg some (by kernel_rfl))
  t0 := Tryz.underlying0
  a0 := Tryz.isAgg0
  z0 := Tryz.sizeOf0
  v0 := Tryz.zeroValue0
  t3 := Tryz.underlying3
  a3 := Tryz.isAgg3
  z3 := Tryz.sizeOf3
  v3 := Tryz.zeroValue3
  t4 := Tryz.underlying4
  a4 := Tryz.isAgg4
  z4 := Tryz.sizeOf4
  v4 := Tryz.zeroValue4
  t5 := Tryz.underlying5
  a5 := Tryz.isAgg5
  z5 := Tryz.sizeOf5
  v5 := Tryz.zeroValue5
  t9 := Tryz.underlying9
  a9 := Tryz.isAgg9
  z9 := Tryz.sizeOf9
  v9 := Tryz.zeroValue9
  t20 := Tryz.underlying20
  a20 := Tryz.isAgg20
  z20 := Tryz.sizeOf20
  v20 := Tryz.zeroValue20
  t37 := Tryz.underlying52
  a37 := Tryz.isAgg52
  z37 := Tryz.sizeOf52
  v37 := Tryz.zeroValue52
  t46 := Tryz.underlying146
  a46 := Tryz.isAgg146
  z46 := Tryz.sizeOf146
  v46 := Tryz.zeroValue146
  t51 := Tryz.underlying208
  a51 := Tryz.isAgg208
  z51 := Tryz.sizeOf208
  v51 := Tryz.zeroValue208
  t53 := Tryz.underlying170
  a53 := Tryz.isAgg170
  z53 := Tryz.sizeOf170
  v53 := Tryz.zeroValue170
  t70 := Tryz.underlying187
  a70 := Tryz.isAgg187
  z70 := Tryz.sizeOf187
  v70 := Tryz.zeroValue187
  t72 := Tryz.underlying189
  a72 := Tryz.isAgg189
  z72 := Tryz.sizeOf189
  v72 := Tryz.zeroValue189
  t75 := Tryz.underlying192
  a75 := Tryz.isAgg192
  z75 := Tryz.sizeOf192
  v75 := Tryz.zeroValue192
  t76 := Tryz.underlying193
  a76 := Tryz.isAgg193
  z76 := Tryz.sizeOf193
  v76 := Tryz.zeroValue193
  t109 := Tryz.underlying215
  a109 := Tryz.isAgg215
  z109 := Tryz.sizeOf215
  v109 := Tryz.zeroValue215
  t127 := Tryz.underlying221
  a127 := Tryz.isAgg221
  z127 := Tryz.sizeOf221
  v127 := Tryz.zeroValue221
  t146 := Tryz.underlying239
  a146 := Tryz.isAgg239
  z146 := Tryz.sizeOf239
  v146 := Tryz.zeroValue239
  t148 := Tryz.underlying241
  a148 := Tryz.isAgg241
  z148 := Tryz.sizeOf241
  v148 := Tryz.zeroValue241
  t164 := Tryz.underlying246
  a164 := Tryz.isAgg246
  z164 := Tryz.sizeOf246
  v164 := Tryz.zeroValue246 }
theorem Tryz.Builder_Extra_105 : Builder.Extra Tryz.prog Tryz.lays105_ren := {
  sizeBuilder := by kernel_rfl
  liesBuilder := by kernel_rfl
  t5 := Tryz.underlying5
  a5 := Tryz.isAgg5
  z5 := Tryz.sizeOf5
  v5 := Tryz.zeroValue5
  infoByte := by kernel_rfl
  cellsByte := by kernel_rfl
  sizeByte := by kernel_rfl
  neB5 := by decide }
open Go.RowKit Go.Lib in
theorem Tryz.strings_Repeat (s : ByteArray) (c : Nat) (w : World) (hc : c ≤ 9223372036854775807) (hlen : s.size * c ≤ 140737488355328) :
    Calls Tryz.prog 136 #[.string s, .int .i64 c] w fun e w' => e = .returned (.string ⟨(Lib.repeatL s.data.toList c).toArray⟩) ∧ Below w.heap.size w w' := Any.strings_Repeat Tryz.lays105 Tryz.Builder_Extra_105 s c w hc hlen
def Tryz.lays229_ren : Go.Shelf.Ren := ⟨fun | 229 => 103 | n => n, fun | 9 => 9 | 40 => 163 | 31 => 23 | 152 => 178 | 3 => 3 | 0 => 0 | 4 => 4 | 21 => 21 | 154 => 180 | n => n, fun | n => n⟩
theorem Tryz.lays229 : Go.Proofs.Lays.n229 Tryz.prog Tryz.lays229_ren := {
  mixed := by kernel_rfl
  f229 := Tryz.func103.trans (congrArg some (by kernel_rfl))
  t0 := Tryz.underlying0
  a0 := Tryz.isAgg0
  z0 := Tryz.sizeOf0
  v0 := Tryz.zeroValue0
  t3 := Tryz.underlying3
  a3 := Tryz.isAgg3
  z3 := Tryz.sizeOf3
  v3 := Tryz.zeroValue3
  t4 := Tryz.underlying4
  a4 := Tryz.isAgg4
  z4 := Tryz.sizeOf4
  v4 := Tryz.zeroValue4
  t9 := Tryz.underlying9
  a9 := Tryz.isAgg9
  z9 := Tryz.sizeOf9
  v9 := Tryz.zeroValue9
  t21 := Tryz.underlying21
  a21 := Tryz.isAgg21
  z21 := Tryz.sizeOf21
  v21 := Tryz.zeroValue21
  t31 := Tryz.underlying23
  a31 := Tryz.isAgg23
  z31 := Tryz.sizeOf23
  v31 := Tryz.zeroValue23
  t40 := Tryz.underlying163
  a40 := Tryz.isAgg163
  z40 := Tryz.sizeOf163
  v40 := Tryz.zeroValue163
  t152 := Tryz.underlying178
  a152 := Tryz.isAgg178
  z152 := Tryz.sizeOf178
  v152 := Tryz.zeroValue178
  t154 := Tryz.underlying180
  a154 := Tryz.isAgg180
  z154 := Tryz.sizeOf180
  v154 := Tryz.zeroValue180 }
open Go.RowKit Go.Lib in
theorem Tryz.strings_FieldsFunc_runes (g : Nat) (lb : Array Value) (eg : ∀ args w, (callFunc g args).run Tryz.prog w = .ok (.enter g args) w) (p : Nat → Bool) (s : ByteArray) (w : World) (hs : s.size ≤ 4294967296) (hp : PredAtRunes Tryz.prog g lb p w) :
    Calls Tryz.prog 103 #[.string s, .func (.func g) #[] lb] w fun e w' => ∃ A, e = .returned (.slice (some ⟨A, 0, none⟩) (Lib.goFieldsP p s).length (Lib.goFieldsP p s).length) ∧ w.heap.size ≤ A ∧
      w'.ownsRow w.heap.size 9 1 (.slice (some ⟨A, 0, none⟩) (Lib.goFieldsP p s).length (Lib.goFieldsP p s).length) (Lib.goFieldsP p s).length ((Lib.goFieldsP p s).map Value.string) ∧ Below w.heap.size w w' := Any.strings_FieldsFunc_runes Tryz.lays229 g lb eg p s w hs hp (by kernel_rfl) (by kernel_rfl)
def Tryz.laysSlN44_f98_ren : Go.Shelf.Ren := ⟨fun | 44 => 98 | n => n, fun | 25 => 23 | 26 => 9 | 3 => 3 | 4 => 4 | 0 => 0 | n => n, fun | n => n⟩
theorem Tryz.laysSlN44_f98 : Go.Proofs.SlLaysN.n44 Tryz.prog Tryz.laysSlN44_f98_ren := {
  mixed := by kernel_rfl
  f44 := ⟨Tryz.f98.name, by decide, Tryz.func98.trans (congrArg some (by kernel_rfl))⟩
  t0 := Tryz.underlying0
  a0 := Tryz.isAgg0
  z0 := Tryz.sizeOf0
  v0 := Tryz.zeroValue0
  t3 := Tryz.underlying3
  a3 := Tryz.isAgg3
  z3 := Tryz.sizeOf3
  v3 := Tryz.zeroValue3
  t4 := Tryz.underlying4
  a4 := Tryz.isAgg4
  z4 := Tryz.sizeOf4
  v4 := Tryz.zeroValue4
  t25 := Tryz.underlying23
  a25 := Tryz.isAgg23
  z25 := Tryz.sizeOf23
  v25 := Tryz.zeroValue23
  t26 := Tryz.underlying9
  a26 := Tryz.isAgg9
  z26 := Tryz.sizeOf9
  v26 := Tryz.zeroValue9
  i26 := by kernel_rfl }
open Go.RowKit Go.Lib Go.Sort in
theorem Tryz.slices_Compact_string (blk off cap : Nat) (zs : List (List UInt8)) (w : World) (hH : Holds encStr w blk off zs.toArray) (hsz : zs.length ≤ 9223372036854775807) (hcap : zs.length ≤ cap) :
    Calls Tryz.prog 98 #[.slice (some ⟨blk, off, none⟩) zs.length cap] w fun e w' => e = .returned (.slice (some ⟨blk, off, none⟩) (Lib.compact zs).length cap) ∧ ∃ q, w' = putRow encStr (Sort.ahead w q) blk off (Lib.compact zs ++ List.replicate (zs.length - (Lib.compact zs).length) []).toArray := AnyG.slices_Compact_string Tryz.laysSlN44_f98 blk off cap zs w hH hsz hcap
open Go.RowKit Go.Lib Go.Sort in
theorem Tryz.slices_Compact_string_empty (a : Option Addr) (cap : Nat) (w : World) :
    Calls Tryz.prog 98 #[.slice a 0 cap] w fun e w' => e = .returned (.slice a 0 cap) ∧ w' = w := AnyG.slices_Compact_string_empty Tryz.laysSlN44_f98 a cap w
def Tryz.laysSlM6_f94_ren : Go.Shelf.Ren := ⟨fun | 6 => 94 | 8 => 124 | 9 => 123 | 19 => 152 | 20 => 153 | 21 => 144 | 22 => 145 | 23 => 146 | 24 => 147 | 25 => 148 | 26 => 149 | 27 => 92 | 28 => 150 | 29 => 151 | 36 => 172 | 31 => 173 | 32 => 174 | 37 => 175 | 38 => 176 | 39 => 122 | 41 => 199 | n => n, fun | 27 => 23 | 29 => 9 | 3 => 3 | 32 => 146 | 26 => 23 | 0 => 0 | 44 => 208 | 46 => 170 | 4 => 4 | 36 => 202 | 35 => 201 | 41 => 75 | 5 => 5 | 9 => 9 | 53 => 223 | 57 => 173 | 63 => 249 | 64 => 250 | n => n, fun | n => n⟩
theorem Tryz.laysSlM6_f94 : Go.Proofs.SlLaysM.n6 Tryz.prog Tryz.laysSlM6_f94_ren := {
  mixed := by kernel_rfl
  f6 := ⟨Tryz.f94.name, by decide, Tryz.func94.trans (congrArg some (by kernel_rfl))⟩
  f8 := Tryz.func124.trans (congrArg some (by kernel_rfl))
  f9 := ⟨Tryz.f123.name, by decide, Tryz.func123.trans (congrArg some (by kernel_rfl))⟩
  f19 := Tryz.func152.trans (congrArg some (by kernel_rfl))
  f20 := Tryz.func153.trans (congrArg some (by kernel_rfl))
  f21 := ⟨Tryz.f144.name, by decide, Tryz.func144.trans (congrArg some (by kernel_rfl))⟩
  f22 := ⟨Tryz.f145.name, by decide, Tryz.func145.trans (congrArg some (by kernel_rfl))⟩
  f23 := ⟨Tryz.f146.name, by decide, Tryz.func146.trans (congrArg some (by kernel_rfl))⟩
  f24 := ⟨Tryz.f147.name, by decide, Tryz.func147.trans (congrArg some (by kernel_rfl))⟩
  f25 := ⟨Tryz.f148.name, by decide, Tryz.func148.trans (congrArg some (by kernel_rfl))⟩
  f26 := ⟨Tryz.f149.name, by decide, Tryz.func149.trans (congrArg some (by kernel_rfl))⟩
  f27 := ⟨Tryz.f92.name, by decide, Tryz.func92.trans (congrArg some (by kernel_rfl))⟩
  f28 := ⟨Tryz.f150.name, by decide, Tryz.func150.trans (congrArg some (by kernel_rfl))⟩
  f29 := ⟨Tryz.f151.name, by decide, Tryz.func151.trans (congrArg some (by kernel_rfl))⟩
  f31 := Tryz.func173.trans (congrArg some (by kernel_rfl))
  f32 := Tryz.func174.trans (congrArg some (by kernel_rfl))
  f36 := ⟨Tryz.f172.name, by decide, Tryz.func172.trans (congrArg some (by kernel_rfl))⟩
  f37 := ⟨Tryz.f175.name, by decide, Tryz.func175.trans (congrArg some (by kernel_rfl))⟩
  f38 := ⟨Tryz.f176.name, by decide, Tryz.func176.trans (congrArg some (by kernel_rfl))⟩
  f39 := ⟨Tryz.f122.name, by decide, Tryz.func122.trans (congrArg some (by kernel_rfl))⟩
  f41 := ⟨Tryz.f199.name, by decide, Tryz.func199.trans (congrArg some (by kernel_rfl))⟩
  t0 := Tryz.underlying0
  a0 := Tryz.isAgg0
  z0 := Tryz.sizeOf0
  v0 := Tryz.zeroValue0
  t3 := Tryz.underlying3
  a3 := Tryz.isAgg3
  z3 := Tryz.sizeOf3
  v3 := Tryz.zeroValue3
  t4 := Tryz.underlying4
  a4 := Tryz.isAgg4
  z4 := Tryz.sizeOf4
  v4 := Tryz.zeroValue4
  t5 := Tryz.underlying5
  a5 := Tryz.isAgg5
  z5 := Tryz.sizeOf5
  v5 := Tryz.zeroValue5
  t9 := Tryz.underlying9
  a9 := Tryz.isAgg9
  z9 := Tryz.sizeOf9
  v9 := Tryz.zeroValue9
  t26 := Tryz.underlying23
  a26 := Tryz.isAgg23
  z26 := Tryz.sizeOf23
  v26 := Tryz.zeroValue23
  t27 := Tryz.underlying23
  a27 := Tryz.isAgg23
  z27 := Tryz.sizeOf23
  v27 := Tryz.zeroValue23
  t29 := Tryz.underlying9
  a29 := Tryz.isAgg9
  z29 := Tryz.sizeOf9
  v29 := Tryz.zeroValue9
  t32 := Tryz.underlying146
  a32 := Tryz.isAgg146
  z32 := Tryz.sizeOf146
  v32 := Tryz.zeroValue146
  t35 := Tryz.underlying201
  a35 := Tryz.isAgg201
  z35 := Tryz.sizeOf201
  v35 := Tryz.zeroValue201
  t36 := Tryz.underlying202
  a36 := Tryz.isAgg202
  z36 := Tryz.sizeOf202
  v36 := Tryz.zeroValue202
  t41 := Tryz.underlying75
  a41 := Tryz.isAgg75
  z41 := Tryz.sizeOf75
  v41 := Tryz.zeroValue75
  t44 := Tryz.underlying208
  a44 := Tryz.isAgg208
  z44 := Tryz.sizeOf208
  v44 := Tryz.zeroValue208
  t46 := Tryz.underlying170
  a46 := Tryz.isAgg170
  z46 := Tryz.sizeOf170
  v46 := Tryz.zeroValue170
  t53 := Tryz.underlying223
  a53 := Tryz.isAgg223
  z53 := Tryz.sizeOf223
  v53 := Tryz.zeroValue223
  t57 := Tryz.underlying173
  a57 := Tryz.isAgg173
  z57 := Tryz.sizeOf173
  v57 := Tryz.zeroValue173
  t63 := Tryz.underlying249
  a63 := Tryz.isAgg249
  z63 := Tryz.sizeOf249
  v63 := Tryz.zeroValue249
  t64 := Tryz.underlying250
  a64 := Tryz.isAgg250
  z64 := Tryz.sizeOf250
  v64 := Tryz.zeroValue250 }
open Go.RowKit Go.Sort in
theorem Tryz.slices_Sort_string_none (p : Option Addr) (cap : Nat) (w : World) :
    Calls Tryz.prog 94 #[.slice p 0 cap] w fun e w' => e = .returned (.tuple #[]) ∧ w' = w := AnyM.slices_Sort_string_none Tryz.laysSlM6_f94 p cap w
def Tryz.laysSlM5_f128_ren : Go.Shelf.Ren := ⟨fun | 5 => 128 | 8 => 124 | 7 => 156 | 19 => 152 | 20 => 153 | 10 => 177 | 11 => 178 | 12 => 179 | 13 => 180 | 14 => 181 | 15 => 182 | 16 => 183 | 17 => 184 | 18 => 185 | 30 => 200 | 31 => 173 | 32 => 174 | 33 => 201 | 34 => 202 | 35 => 203 | 40 => 212 | n => n, fun | 23 => 72 | 25 => 3 | 3 => 3 | 32 => 146 | 22 => 72 | 0 => 0 | 44 => 208 | 46 => 170 | 4 => 4 | 36 => 202 | 35 => 201 | 41 => 75 | 5 => 5 | 9 => 9 | 53 => 223 | 57 => 173 | 63 => 249 | 64 => 250 | n => n, fun | n => n⟩
theorem Tryz.laysSlM5_f128 : Go.Proofs.SlLaysM.n5 Tryz.prog Tryz.laysSlM5_f128_ren := {
  mixed := by kernel_rfl
  f5 := ⟨Tryz.f128.name, by decide, Tryz.func128.trans (congrArg some (by kernel_rfl))⟩
  f7 := ⟨Tryz.f156.name, by decide, Tryz.func156.trans (congrArg some (by kernel_rfl))⟩
  f8 := Tryz.func124.trans (congrArg some (by kernel_rfl))
  f10 := ⟨Tryz.f177.name, by decide, Tryz.func177.trans (congrArg some (by kernel_rfl))⟩
  f11 := ⟨Tryz.f178.name, by decide, Tryz.func178.trans (congrArg some (by kernel_rfl))⟩
  f12 := ⟨Tryz.f179.name, by decide, Tryz.func179.trans (congrArg some (by kernel_rfl))⟩
  f13 := ⟨Tryz.f180.name, by decide, Tryz.func180.trans (congrArg some (by kernel_rfl))⟩
  f14 := ⟨Tryz.f181.name, by decide, Tryz.func181.trans (congrArg some (by kernel_rfl))⟩
  f15 := ⟨Tryz.f182.name, by decide, Tryz.func182.trans (congrArg some (by kernel_rfl))⟩
  f16 := ⟨Tryz.f183.name, by decide, Tryz.func183.trans (congrArg some (by kernel_rfl))⟩
  f17 := ⟨Tryz.f184.name, by decide, Tryz.func184.trans (congrArg some (by kernel_rfl))⟩
  f18 := ⟨Tryz.f185.name, by decide, Tryz.func185.trans (congrArg some (by kernel_rfl))⟩
  f19 := Tryz.func152.trans (congrArg some (by kernel_rfl))
  f20 := Tryz.func153.trans (congrArg some (by kernel_rfl))
  f30 := ⟨Tryz.f200.name, by decide, Tryz.func200.trans (congrArg some (by kernel_rfl))⟩
  f31 := Tryz.func173.trans (congrArg some (by kernel_rfl))
  f32 := Tryz.func174.trans (congrArg some (by kernel_rfl))
  f33 := ⟨Tryz.f201.name, by decide, Tryz.func201.trans (congrArg some (by kernel_rfl))⟩
  f34 := ⟨Tryz.f202.name, by decide, Tryz.func202.trans (congrArg some (by kernel_rfl))⟩
  f35 := ⟨Tryz.f203.name, by decide, Tryz.func203.trans (congrArg some (by kernel_rfl))⟩
  f40 := ⟨Tryz.f212.name, by decide, Tryz.func212.trans (congrArg some (by kernel_rfl))⟩
  t0 := Tryz.underlying0
  a0 := Tryz.isAgg0
  z0 := Tryz.sizeOf0
  v0 := Tryz.zeroValue0
  t3 := Tryz.underlying3
  a3 := Tryz.isAgg3
  z3 := Tryz.sizeOf3
  v3 := Tryz.zeroValue3
  t4 := Tryz.underlying4
  a4 := Tryz.isAgg4
  z4 := Tryz.sizeOf4
  v4 := Tryz.zeroValue4
  t5 := Tryz.underlying5
  a5 := Tryz.isAgg5
  z5 := Tryz.sizeOf5
  v5 := Tryz.zeroValue5
  t9 := Tryz.underlying9
  a9 := Tryz.isAgg9
  z9 := Tryz.sizeOf9
  v9 := Tryz.zeroValue9
  t22 := Tryz.underlying72
  a22 := Tryz.isAgg72
  z22 := Tryz.sizeOf72
  v22 := Tryz.zeroValue72
  t23 := Tryz.underlying72
  a23 := Tryz.isAgg72
  z23 := Tryz.sizeOf72
  v23 := Tryz.zeroValue72
  t25 := Tryz.underlying3
  a25 := Tryz.isAgg3
  z25 := Tryz.sizeOf3
  v25 := Tryz.zeroValue3
  t32 := Tryz.underlying146
  a32 := Tryz.isAgg146
  z32 := Tryz.sizeOf146
  v32 := Tryz.zeroValue146
  t35 := Tryz.underlying201
  a35 := Tryz.isAgg201
  z35 := Tryz.sizeOf201
  v35 := Tryz.zeroValue201
  t36 := Tryz.underlying202
  a36 := Tryz.isAgg202
  z36 := Tryz.sizeOf202
  v36 := Tryz.zeroValue202
  t41 := Tryz.underlying75
  a41 := Tryz.isAgg75
  z41 := Tryz.sizeOf75
  v41 := Tryz.zeroValue75
  t44 := Tryz.underlying208
  a44 := Tryz.isAgg208
  z44 := Tryz.sizeOf208
  v44 := Tryz.zeroValue208
  t46 := Tryz.underlying170
  a46 := Tryz.isAgg170
  z46 := Tryz.sizeOf170
  v46 := Tryz.zeroValue170
  t53 := Tryz.underlying223
  a53 := Tryz.isAgg223
  z53 := Tryz.sizeOf223
  v53 := Tryz.zeroValue223
  t57 := Tryz.underlying173
  a57 := Tryz.isAgg173
  z57 := Tryz.sizeOf173
  v57 := Tryz.zeroValue173
  t63 := Tryz.underlying249
  a63 := Tryz.isAgg249
  z63 := Tryz.sizeOf249
  v63 := Tryz.zeroValue249
  t64 := Tryz.underlying250
  a64 := Tryz.isAgg250
  z64 := Tryz.sizeOf250
  v64 := Tryz.zeroValue250 }
open Go.RowKit Go.Sort in
theorem Tryz.slices_Sort_int_none (p : Option Addr) (cap : Nat) (w : World) :
    Calls Tryz.prog 128 #[.slice p 0 cap] w fun e w' => e = .returned (.tuple #[]) ∧ w' = w := AnyM.slices_Sort_int_none Tryz.laysSlM5_f128 p cap w
end Go.Proofs
namespace Go.Ab.S16
open Go Go.Proofs Go.RowKit
theorem index1_calls (s : ByteArray) (c : UInt8) (σ : Store) : AC Tryz.prog 210 [.v (.string s), .v (.string ⟨#[c]⟩)] σ (fun e σ' => e = .ret (.v (.int .i64 (Lib.indexByte s.data.toList c))) ∧ σ' = σ) :=
  AC.of_calls1 (vs := [.string s, .string ⟨#[c]⟩]) (r := .int .i64 (Lib.indexByte s.data.toList c)) rfl fun w => Tryz.strings_Index_one s c w
theorem hasPrefix_calls (s p : ByteArray) (σ : Store) : AC Tryz.prog 161 [.v (.string s), .v (.string p)] σ (fun e σ' => e = .ret (.v (.bool (Lib.hasPrefix s.data.toList p.data.toList))) ∧ σ' = σ) :=
  AC.of_calls1 (vs := [.string s, .string p]) (r := .bool (Lib.hasPrefix s.data.toList p.data.toList)) rfl fun w => Tryz.strings_HasPrefix s p w
theorem cutPrefix_calls (s p : ByteArray) (σ : Store) : AC Tryz.prog 164 [.v (.string s), .v (.string p)] σ
    (fun e σ' => e = .ret (.tup [.v (.string ⟨(Lib.trimPrefix s.data.toList p.data.toList).toArray⟩), .v (.bool (Lib.hasPrefix s.data.toList p.data.toList))]) ∧ σ' = σ) :=
  AC.of_calls1 (vs := [.string s, .string p]) (r := .tuple #[.string ⟨(Lib.trimPrefix s.data.toList p.data.toList).toArray⟩, .bool (Lib.hasPrefix s.data.toList p.data.toList)]) rfl fun w => Tryz.strings_CutPrefix s p w
theorem containsRune_calls (s : ByteArray) (r : Int) (σ : Store) (h0 : 0 ≤ r) (h1 : r < 128) : AC Tryz.prog 196 [.v (.string s), .v (.int .i32 r)] σ (fun e σ' => e = .ret (.v (.bool (decide (0 ≤ Lib.indexByte s.data.toList r.toNat.toUInt8)))) ∧ σ' = σ) :=
  AC.of_calls1 (vs := [.string s, .int .i32 r]) (r := .bool (decide (0 ≤ Lib.indexByte s.data.toList r.toNat.toUInt8))) rfl fun w => Tryz.strings_ContainsRune_ascii s r w h0 h1
theorem repeat_calls (s : ByteArray) (c : Nat) (σ : Store) (hc : c ≤ 9223372036854775807) (hlen : s.size * c ≤ 140737488355328) : AC Tryz.prog 136 [.v (.string s), .v (.int .i64 (c : Int))] σ (fun e σ' => e = .ret (.v (.string ⟨(Lib.repeatL s.data.toList c).toArray⟩)) ∧ σ' = σ) :=
  AC.of_calls2 (vs := [.string s, .int .i64 (c : Int)]) (r := .string ⟨(Lib.repeatL s.data.toList c).toArray⟩) rfl fun w => Tryz.strings_Repeat s c w hc hlen
theorem flat_sD : ∀ xs : List ByteArray, flat (xs.map sD) = xs.map sD
  | [] => rfl
  | y :: ys => by simp only [List.map_cons, flat_cons]; rw [flat_sD ys]; rfl
theorem join_calls (xs : List ByteArray) (sep : ByteArray) (σ : Store) (hl : xs.length ≤ 2 ^ 40) (hlen : (Lib.join (xs.map (·.data.toList)) sep.data.toList).length ≤ 140737488355328) :
    AC Tryz.prog 114 [.slc (xs.map sD), .v (.string sep)] σ (fun e σ' => e = .ret (.v (.string ⟨(Lib.join (xs.map (·.data.toList)) sep.data.toList).toArray⟩)) ∧ σ' = σ) := by
  intro w S vs hS hst hr
  obtain ⟨v, vs1, rfl, hv1, hr⟩ := hr.cons_inv
  obtain ⟨v2, vs2, rfl, hv2, hr⟩ := hr.cons_inv
  have := hr.nil_inv; subst this
  have := hv2.v_inv; subst this
  have fin : ∀ e w', (e = Ending.returned (.string ⟨(Lib.join (xs.map (·.data.toList)) sep.data.toList).toArray⟩) ∧ Below w.heap.size w w') → ∃ ae σ' S', (ae = AEnd.ret (.v (.string ⟨(Lib.join (xs.map (·.data.toList)) sep.data.toList).toArray⟩)) ∧ σ' = σ) ∧ RepEnd w' S' ae e ∧ RepStore w' S' σ' ∧ Fr w S (sdom σ) w' S' σ' := by
    rintro e w' ⟨rfl, hb⟩
    exact ⟨_, σ, S, ⟨rfl, rfl⟩, .v rfl, store_below hS.lt hst hb, fr_below hS.lt hb⟩
  obtain ⟨ad, cap, rfl, hcap, hcase⟩ := slc_inv hv1
  rw [List.length_map] at hcap ⊢
  rcases hcase with hnil | ⟨b, off, sz, vals, rfl, hb, hrr, hc, hs⟩
  · have : xs = [] := by simpa using hnil
    subst this
    refine (Tryz.strings_Join_none ad cap sep w).mono fun e w' h => fin e w' ?_
    obtain ⟨rfl, rfl⟩ := h
    exact ⟨rfl, Below.refl _ _⟩
  · refine (Tryz.strings_Join b off cap xs sep w (fun j x hj => ?_) (hS.lt b hb) (by omega) hcap hlen).mono fin
    have hfl := flat_sD xs
    rw [hfl] at hrr
    obtain ⟨y, hy, hrep⟩ := hrr.get j (sD x) (by rw [List.getElem?_map, hj]; rfl)
    rw [hc j y hy, hrep.v_inv]
end Go.Ab.S16
namespace Go.Ab.S16
open Go Go.Proofs
def XEdge.needs (e : XEdge) : List ByteArray := e.ins ++ e.impl ++ e.order
structure XEdge.small (e : XEdge) : Prop where
  outs : e.outs.length ≤ 10
  ins : e.ins.length ≤ 10
  impl : e.impl.length ≤ 10
  order : e.order.length ≤ 10
theorem plain_sD (l : List ByteArray) : ∀ y ∈ l.map sD, y.cells.length = 1 ∧ y.plain = true := plain_mapF sD 1 (fun _ => ⟨rfl, rfl⟩) l
theorem copied_calls (e : XEdge) (σ : Store) (h : e.small) :
    AC Tryz.prog 53 [e.d] σ (fun r σ' => r = .ret e.d ∧ σ' = σ) := by
  refine AC.still ?_ σ
  refine AC.forget (R := fun r _ => r = .ret e.d) ?_ fun r σ' h => ⟨[], SLe.nil _, h, rfl⟩
  unfold XEdge.d
  have c1 := fun σ => clone_str (e.outs.map sD) σ (plain_sD _) (by simp; have := h.outs; omega)
  have c2 := fun σ => clone_str (e.ins.map sD) σ (plain_sD _) (by simp; have := h.ins; omega)
  have c3 := fun σ => clone_str (e.impl.map sD) σ (plain_sD _) (by simp; have := h.impl; omega)
  have c4 := fun σ => clone_str (e.order.map sD) σ (plain_sD _) (by simp; have := h.order; omega)
  refine AC.of_body Tryz.func53 rfl Tryz.ntmps53 (by simp) fun C hC => ?_
  refine Gs.sq (Gs.rg [0] fun K hK => ?_); simp (maxSteps:=9^7) only [go_sem]
  intro b1 b2 hb2
  have hne : b1 ≠ b2 := fun h => by rw [h, sget_self] at hb2; cases hb2
  refine hK _ _ ?_; clear hK K
  refine Gs.sq ?_
  refine Gs.draw [1, 2] [] [b1] [13, 15, 17, 19] [(0, true), (1, true), (3, true), (4, true), (6, true), (7, true), (9, true), (10, true), (2, false), (12, true), (5, false), (8, false), (11, false), (13, false), (14, true), (15, false), (16, true), (17, false), (18, true), (19, false)] (by kernel_rfl) (by decide) (by kernel_rfl) fun K hK => ?_; simp (maxSteps:=9^7) only [go_sem, hne]
  refine ⟨_, Tryz.call52, (c1 _).mono ?_⟩
  rintro e σ1 ⟨rfl, rfl⟩
  simp only [go_sem, hne]
  first | refine ⟨fun _ _ => rfl, ?_⟩ | skip
  refine ⟨_, Tryz.call52, (c2 _).mono ?_⟩
  rintro e σ1 ⟨rfl, rfl⟩
  simp only [go_sem, hne]
  first | refine ⟨fun _ _ => rfl, ?_⟩ | skip
  refine ⟨_, Tryz.call52, (c3 _).mono ?_⟩
  rintro e σ1 ⟨rfl, rfl⟩
  simp only [go_sem, hne]
  first | refine ⟨fun _ _ => rfl, ?_⟩ | skip
  refine ⟨_, Tryz.call52, (c4 _).mono ?_⟩
  rintro e σ1 ⟨rfl, rfl⟩
  simp only [go_sem, hne]
  refine hK _ _ ?_; clear hK K
  refine Gs.sq (Gs.rg [1, 2] fun K hK => ?_); simp (maxSteps:=9^7) only [go_sem, hne]
  refine hK _ _ ?_; clear hK K
  refine Gs.ret hC Tryz.func53 (by simp [go_sem]) ?_
  simp only [go_sem]
theorem needs_prog (e : XEdge) (σ : Store) (h : e.small) :
    AC Tryz.prog 55 [e.d] σ (fun r σ' => r = .ret (.slc (e.needs.map sD)) ∧ σ' = σ) := by
  refine AC.still ?_ σ
  refine AC.forget (R := fun r _ => r = .ret (.slc (e.needs.map sD))) ?_ fun r σ' h => ⟨[], SLe.nil _, h, rfl⟩
  unfold XEdge.d
  have hcat := fun σ => concat_str_slc [e.ins, e.impl, e.order] σ (by simp) (fun l hl => by
    simp only [List.mem_cons, List.not_mem_nil, or_false] at hl
    rcases hl with rfl | rfl | rfl
    · have := h.ins; omega
    · have := h.impl; omega
    · have := h.order; omega)
  refine AC.of_body Tryz.func55 rfl Tryz.ntmps55 (by simp) fun C hC => ?_
  refine Gs.sq (Gs.rg [0] fun K hK => ?_); simp (maxSteps:=9^7) only [go_sem]
  intro b1
  refine hK _ _ ?_; clear hK K
  refine Gs.sq ?_
  refine Gs.regionM [1] [9] fun K hK => ?_; simp (maxSteps:=9^7) only [go_sem]
  refine ⟨by decide, ?_⟩
  refine ⟨_, Tryz.call36, (hcat _).mono ?_⟩
  rintro e σ1 ⟨rfl, rfl⟩
  simp only [go_sem]
  refine hK _ _ ?_; clear hK K
  refine Gs.ret hC Tryz.func55 (by simp [go_sem]) ?_
  simp only [go_sem]
  unfold XEdge.needs
  simp
end Go.Ab.S16
namespace Go.Ab
open Go
variable {P : Program} {f : FuncId} {args : List D} {σ σ1 : Store}
theorem AC.stillR {R0 : AEnd → Prop} (h : AC P f args σ1 (fun e σ' => R0 e ∧ σ' = σ1)) (hle : SLe σ1 σ) : AC P f args σ (fun e σ' => R0 e ∧ σ' = σ) := by
  intro w S vs hS hst hr
  refine (h w S vs hS (hst.le hle) hr).mono ?_
  rintro e w' ⟨ae, σ', S', ⟨hR, rfl⟩, hend, hst', hfr⟩
  have hnot : ∀ b, S b → ¬ sdom σ' b := fun b hb hd => by
    unfold sdom at hd
    cases hs : sget b σ' with
    | none => exact hd hs
    | some o => exact (hst b o (hle b o hs)).1 hb
  have hE : Ev w S w' S' := hfr.ev fun b hb => ⟨hS.lt b hb, hnot b hb⟩
  have hdom : ∀ b, sdom σ' b → sdom σ b := fun b hb => by
    unfold sdom at *
    cases hs : sget b σ' with
    | none => exact absurd hs hb
    | some o => rw [hle b o hs]; simp
  refine ⟨ae, σ, S', ⟨hR, rfl⟩, hend, fun b o hb => ?_, { hfr with block := fun b hb hn => hfr.block b hb fun hd => hn (hdom b hd), new := fun b hb => ?_, dom := fun b hb => .inl hb }⟩
  · cases hs : sget b σ' with
    | some o' =>
      have := hle b o' hs
      rw [hb] at this
      cases this
      exact hst' b o hs
    | none =>
      obtain ⟨h1, h2⟩ := hst b o hb
      have hn : ¬ sdom σ' b := fun hd => hd hs
      refine ⟨fun hs' => ?_, h2.ev hE (hfr.block b h2.lt hn)⟩
      rcases hfr.new b hs' with h3 | h3 | h3
      · exact h1 h3
      · exact hn h3
      · have := h2.lt; omega
  · rcases hfr.new b hb with h3 | h3 | h3
    · exact .inl h3
    · exact .inr (.inl (hdom b h3))
    · exact .inr (.inr h3)
theorem AC.stillIn {r : AEnd} (h : AC P f args σ1 (fun e σ' => e = r ∧ σ' = σ1)) (hle : SLe σ1 σ) : AC P f args σ (fun e σ' => e = r ∧ σ' = σ) :=
  AC.stillR (R0 := fun e => e = r) h hle
theorem AC.pubOwnIn {sz : Nat} {xs : List D} (hp : ∀ b, sget b σ1 = none → spub b sz xs σ1 = σ1) (h : AC P f args σ1 (fun e σ' => ∃ o, GrD o sz xs σ1 ∧ e = .ret (.own o sz xs.length) ∧ σ' = cellsOf o sz xs ++ σ1)) :
    AC P f args σ1 (fun e σ' => e = .ret (.slc xs) ∧ σ' = σ1) := by
  have h2 : AC P f args σ1 (fun e σ' => (e = .ret (.slc xs) ∧ σ' = σ1) ∨ ∃ b, sget b σ1 = none ∧ e = .ret (.own (some b) sz xs.length) ∧ σ' = (b, .arr sz xs) :: σ1) := by
    refine h.ret_le fun e σ' ⟨o, hg, he, hs⟩ => ?_
    cases o with
    | some b => exact .inl (.inr ⟨b, hg.fresh b rfl, he, hs⟩)
    | none =>
      have : xs = [] := hg.zero rfl
      subst this
      exact .inr ⟨_, _, he, DLe.own_slc _ _, .inl ⟨rfl, hs⟩⟩
  refine h2.publish fun e σ' hR => ?_
  rcases hR with h3 | ⟨b, hb, rfl, rfl⟩
  · exact .inl h3
  · refine .inr ⟨_, b, sz, xs, rfl, sget_self .., ?_, ?_⟩
    · simp only [D.pub, true_and]
      rw [if_pos (Nat.le_refl _), List.take_length]
    · simp only [spub, if_true]
      exact hp b hb
end Go.Ab
namespace Go.Ab
open Go
theorem Gs.nilOwn {P : Program} {N : Slots} {C : Ctx P N} {todo : List Item} {env : Env} {σ : Store} (k sz : Nat) (h0 : eget k env = .v (.slice none 0 0)) (h : Gs C todo (eput k (.own none sz 0) env) σ) : Gs C todo env σ :=
  h.env_le fun j => by
    rw [eget_eput]
    split
    · rename_i hj; rw [hj, h0]; exact DLe.nil_own sz
    · exact DLe.refl _
theorem GrD.sset {o : Option Nat} {sz : Nat} {xs : List D} {ρ : Store} (h : GrD o sz xs ρ) {b : Nat} {x : AObj} (hb : (sget b ρ).isSome = true) : Ab.sset b x (cellsOf o sz xs ++ ρ) = cellsOf o sz xs ++ Ab.sset b x ρ := by
  cases o with
  | none => rfl
  | some c =>
    have hne : b ≠ c := fun e => by rw [e, h.fresh c rfl] at hb; cases hb
    simp [cellsOf, Ab.sset, hne]
theorem GrD.ssetR {o : Option Nat} {sz : Nat} {xs : List D} {ρ : Store} (h : GrD o sz xs ρ) (b : Nat) (x : AObj) : GrD o sz xs (Ab.sset b x ρ) :=
  ⟨fun c hc => by rw [sget_sset]; split
                  · rename_i he; rw [← he, h.fresh c hc]; rfl
                  · exact h.fresh c hc, h.zero⟩
end Go.Ab
namespace Go.Ab.S16
open Go Go.Proofs
def nD (n : Nat) : D := .v (.int .i64 (n : Int))
@[go_sem] theorem nD_cells (n : Nat) : (nD n).cells = [nD n] := rfl
@[go_sem] theorem nD_plain (n : Nat) : (nD n).plain = true := rfl
@[go_sem] theorem nD_cell (n : Nat) : (nD n).cell = true := rfl
structure XGr where
  man : XMan
  mks : List (ByteArray × Nat)
  ah : List (List Nat)
def mkE (l : List (ByteArray × Nat)) : List (Value × D) := l.map fun p => (.string p.1, nD p.2)
def lookL (l : List (ByteArray × Nat)) (f : ByteArray) : Option Nat := (l.find? fun p => f == p.1).map (·.2)
def XGr.cells (g : XGr) (mb : Nat) : List D := [.slc (g.man.edges.map XEdge.d), .slc (g.man.defs.map sD), .map mb, .slc (g.ah.map fun l => .slc (l.map nD))]
def XGr.d (g : XGr) (mb : Nat) : D := .elt (g.cells mb)
theorem mfind_mkE (l : List (ByteArray × Nat)) (f : ByteArray) : mfind (.string f) (mkE l) = (lookL l f).map nD := by
  induction l with
  | nil => rfl
  | cons p r ih =>
    obtain ⟨k, n⟩ := p
    show (if keyEq (.string f) (.string k) = true then some (nD n) else mfind (.string f) (mkE r)) = _
    rw [ih]
    unfold lookL
    rw [List.find?_cons]
    show (if (f == k) = true then _ else _) = _
    cases h : (f == k) <;> simp
theorem mkE_like (l : List (ByteArray × Nat)) (f : ByteArray) : ∀ e ∈ mkE l, keyLike .string (.string f) e.1 = true := fun e he => by
  obtain ⟨p, _, rfl⟩ := List.mem_map.1 he
  rfl
theorem spub_mk (b sz mb : Nat) (xs : List D) (l : List (ByteArray × Nat)) (h : sget b [(mb, AObj.mp (mkE l))] = none) : spub b sz xs [(mb, .mp (mkE l))] = [(mb, .mp (mkE l))] := by
  have hne : b ≠ mb := fun e => by rw [e, sget_self] at h; cases h
  simp only [spub, if_neg hne, AObj.pub]
  congr 3
  unfold mkE
  rw [List.map_map]
  rfl
def madeL (mk : List (ByteArray × Nat)) (fs : List ByteArray) : List Nat := fs.foldl (fun out f => match lookL mk f with | some n => if out.contains n then out else out ++ [n] | none => out) []
theorem madeL_succ (mk : List (ByteArray × Nat)) (fs : List ByteArray) (i : Nat) (h : i < fs.length) : madeL mk (fs.take (i + 1)) = match lookL mk fs[i] with | some n => if (madeL mk (fs.take i)).contains n then madeL mk (fs.take i) else madeL mk (fs.take i) ++ [n] | none => madeL mk (fs.take i) := by
  unfold madeL
  rw [List.take_succ_eq_append_getElem h, List.foldl_append]
  rfl
theorem madeL_len (mk : List (ByteArray × Nat)) (fs : List ByteArray) : ∀ i, i ≤ fs.length → (madeL mk (fs.take i)).length ≤ i
  | 0, _ => by simp [madeL]
  | i + 1, h => by
    have := madeL_len mk fs i (by omega)
    rw [madeL_succ mk fs i (by omega)]
    split
    · split
      · omega
      · simp; omega
    · omega
theorem any_nat (l : List Nat) (n : Nat) : ((l.map fun k : Nat => (k : Int)).any fun s => (n : Int) == s) = l.contains n := by
  induction l with
  | nil => rfl
  | cons x l ih =>
    rw [List.map_cons, List.any_cons, ih, List.contains_cons]
    congr 1
    rw [Bool.eq_iff_iff]
    simp only [beq_iff_eq]
    omega
theorem nD_eq (l : List Nat) : l.map nD = (l.map fun k : Nat => (k : Int)).map iD := by rw [List.map_map]; rfl
theorem getD_nD (o : Option Nat) : (o.map nD).getD (.v (.int .i64 0)) = nD (o.getD 0) := by cases o <;> rfl
theorem some_nD (o : Option Nat) : (o.map nD).isSome = o.isSome := by cases o <;> rfl
theorem graphMaker_calls (g : XGr) (mb : Nat) (f : ByteArray) (σ : Store) (hm : sget mb σ = some (.mp (mkE g.mks))) :
    AC Tryz.prog 33 [g.d mb, .v (.string f)] σ (fun e σ' => e = .ret (.tup [nD ((lookL g.mks f).getD 0), .v (.bool (lookL g.mks f).isSome)]) ∧ σ' = σ) := by
  unfold XGr.d XGr.cells
  have hfd := mfind_mkE g.mks f
  have hlk := mkE_like g.mks f
  have hg1 := getD_nD (lookL g.mks f)
  have hg2 := some_nD (lookL g.mks f)
  refine AC.of_body Tryz.func33 rfl Tryz.ntmps33 (by simp) fun C hC => ?_
  refine Gs.sq (Gs.rg [0, 1] fun K hK => ?_); simp (maxSteps:=9^7) only [go_sem]
  refine hK _ _ ?_; clear hK K
  refine Gs.sq (Gs.sq ?_)
  refine Gs.rg [0, 1] fun K hK => ?_; simp (maxSteps:=9^7) only [go_sem]
  refine hK _ _ ?_; clear hK K
  refine Gs.condF rfl ?_
  refine Gs.sk ?_
  refine Gs.sq (Gs.rg [0, 1] fun K hK => ?_); simp (maxSteps:=9^7) only [go_sem, hm, hfd, hg1, hg2]
  refine ⟨⟨rfl, hlk⟩, ?_⟩
  refine hK _ _ ?_; clear hK K
  refine Gs.sq (Gs.rg [6, 7] fun K hK => ?_); simp (maxSteps:=9^7) only [go_sem]
  refine hK _ _ ?_; clear hK K
  refine Gs.ret hC Tryz.func33 (by simp [go_sem]) ?_
  simp only [go_sem]
theorem made_own (g : XGr) (mb : Nat) (fs : List ByteArray) (σ : Store) (hm : sget mb σ = some (.mp (mkE g.mks))) (hl : fs.length < 2 ^ 30) :
    AC Tryz.prog 54 [g.d mb, .slc (fs.map sD)] σ (fun e σ' => ∃ o, GrD o 1 ((madeL g.mks fs).map nD) σ ∧ e = .ret (.own o 1 ((madeL g.mks fs).map nD).length) ∧ σ' = cellsOf o 1 ((madeL g.mks fs).map nD) ++ σ) := by
  unfold XGr.d XGr.cells
  have hll : (fs.map sD).length = fs.length := List.length_map ..
  refine AC.of_body Tryz.func54 rfl Tryz.ntmps54 (by simp) fun C hC => ?_
  refine Gs.sq (Gs.rg [0, 1] fun K hK => ?_); simp (maxSteps:=9^7) only [go_sem]
  refine hK _ _ ?_; clear hK K
  refine Gs.sq (Gs.rg [0, 1] fun K hK => ?_); simp (maxSteps:=9^7) only [go_sem]
  refine hK _ _ ?_; clear hK K
  refine Gs.sq (Gs.sq ?_)
  refine Gs.rg [0, 1, 5] fun K hK => ?_; simp (maxSteps:=9^7) only [go_sem]
  refine hK _ _ ?_; clear hK K
  refine Gs.bk ?_
  refine Gs.nilOwn 5 1 rfl ?_
  refine Gs.rebase [0, 5, 10, 11, 12] ?_
  simp only [go_sem]
  refine Gs.while (fun (i : Nat) env' σ'' => ∃ o : Option Nat, (i ≤ fs.length ∧ GrD o 1 ((madeL g.mks (fs.take i)).map nD) σ) ∧ env' = [(0, .elt [.slc (g.man.edges.map XEdge.d), .slc (g.man.defs.map sD), .map mb, .slc (g.ah.map fun l => .slc (l.map nD))]), (5, .own o 1 ((madeL g.mks (fs.take i)).map nD).length), (10, .slc (fs.map sD)), (11, .v (.int .i64 (fs.length : Int))), (12, .v (.int .i64 (i : Int)))] ∧ σ'' = cellsOf o 1 ((madeL g.mks (fs.take i)).map nD) ++ σ) (fun (i : Nat) => fs.length - i) 0 ⟨none, ⟨by omega, GrD.nil _ _⟩, by rw [hll]; rfl, rfl⟩ ?_
  rintro i env' σ'' ⟨o, ⟨hi, hgr⟩, rfl, rfl⟩ ih
  have ih1 := ih
  refine Gs.sq (Gs.rg [0, 5, 10, 11, 12] fun K hK => ?_); simp (maxSteps:=9^7) only [go_sem]
  refine hK _ _ ?_; clear hK K
  refine Gs.sq ?_
  refine Gs.cond rfl (fun h13 => ?_) (fun h13 => ?_)
  · have hlt : i < fs.length := by simpa using h13
    have hg := getD_map_lt sD fs i hlt
    rw [sD] at hg
    have hi0 : (0 : Int) ≤ (i : Int) := by omega
    have hi1 : (i : Int) < ((fs.map sD).length : Int) := by omega
    have hm2 := hgr.keep hm
    have hfd := mfind_mkE g.mks fs[i]
    have hlk := mkE_like g.mks fs[i]
    have hms := madeL_succ g.mks fs i hlt
    have hlen := madeL_len g.mks fs i hi
    have ho := hgr.oget
    have hd := hgr.sdel
    have htk : List.take ((madeL g.mks (fs.take i)).map nD).length ((madeL g.mks (fs.take i)).map nD) = (madeL g.mks (fs.take i)).map nD := List.take_of_length_le (Nat.le_refl _)
    refine Gs.sk ?_
    refine Gs.sq ?_
    refine Gs.bk ?_
    refine Gs.sq (Gs.rg [0, 5, 10, 11, 12] fun K hK => ?_); simp (maxSteps:=9^7) only [go_sem, hg, hi0, hi1]
    refine hK _ _ ?_; clear hK K
    refine Gs.sq ?_
    rcases hlo : lookL g.mks fs[i] with _ | n
    all_goals simp only [hlo, Option.map_none, Option.map_some] at hfd hms
    · refine Gs.rg [0, 5, 7, 10, 11, 12] fun K hK => ?_; simp (maxSteps:=9^7) only [go_sem, hm2, hfd]
      refine ⟨⟨rfl, hlk⟩, ?_⟩
      refine hK _ _ ?_; clear hK K
      refine Gs.sq (Gs.rg [0, 5, 8, 9, 10, 11, 12] fun K hK => ?_); simp (maxSteps:=9^7) only [go_sem]
      refine hK _ _ ?_; clear hK K
      refine Gs.condF rfl ?_
      refine Gs.sk ?_
      refine Gs.ib ?_
      refine Gs.rg [0, 5, 10, 11, 12] fun K hK => ?_; simp (maxSteps:=9^7) only [go_sem]
      refine hK _ _ ?_; clear hK K
      refine Gs.rebase [0, 5, 10, 11, 12] ?_
      simp only [go_sem]
      rw [wrap_succ i (by omega)]
      exact ih (i + 1) _ _ ⟨o, ⟨by omega, by rw [hms]; exact hgr⟩, by rw [hms], by rw [hms]⟩ (by omega)
    · refine Gs.rg [0, 5, 7, 10, 11, 12] fun K hK => ?_; simp (maxSteps:=9^7) only [go_sem, hm2, hfd]
      refine ⟨⟨rfl, hlk⟩, ?_⟩
      refine hK _ _ ?_; clear hK K
      refine Gs.sq (Gs.rg [0, 5, 8, 9, 10, 11, 12] fun K hK => ?_); simp (maxSteps:=9^7) only [go_sem]
      refine ⟨_, Tryz.call91, (contains_intO ((madeL g.mks (fs.take i)).map fun k : Nat => (k : Int)) (n : Int) _ (by rw [← nD_eq]; exact ho) (by simp) (by simp; omega)).mono ?_⟩
      rintro e σ1 ⟨rfl, rfl⟩
      simp only [go_sem, any_nat]
      refine hK _ _ ?_; clear hK K
      refine Gs.cond rfl (fun h31 => ?_) (fun h31 => ?_)
      · refine Gs.regionM [0, 5, 8, 10, 11, 12] [34] fun K hK => ?_; simp (maxSteps:=9^7) only [go_sem, ho, hd, htk]
        refine ⟨by decide, ⟨Nat.le_refl _, fun y hy => by rw [hy]; exact ⟨rfl, rfl⟩, by simp only [List.length_map]; omega, by simp only [List.length_map]; omega⟩, fun ob hz hf => ?_⟩
        refine hK _ _ ?_; clear hK K
        refine Gs.ib ?_
        refine Gs.rg [0, 5, 10, 11, 12] fun K hK => ?_; simp (maxSteps:=9^7) only [go_sem]
        refine hK _ _ ?_; clear hK K
        refine Gs.rebase [0, 5, 10, 11, 12] ?_
        simp only [go_sem]
        have hc : (madeL g.mks (fs.take i)).contains n = false := by simpa using h31
        rw [hc] at hms
        have e1 : (madeL g.mks (fs.take i)).map nD ++ [nD n] = (madeL g.mks (fs.take (i + 1))).map nD := by rw [hms]; simp
        rw [wrap_succ i (by omega), e1]
        exact ih (i + 1) _ _ ⟨ob, ⟨by omega, by rw [← e1]; exact hgr.app hz hf⟩, rfl, rfl⟩ (by omega)
      · refine Gs.sk ?_
        refine Gs.ib ?_
        refine Gs.rg [0, 5, 10, 11, 12] fun K hK => ?_; simp (maxSteps:=9^7) only [go_sem]
        refine hK _ _ ?_; clear hK K
        refine Gs.rebase [0, 5, 10, 11, 12] ?_
        simp only [go_sem]
        have hc : (madeL g.mks (fs.take i)).contains n = true := by simpa using h31
        rw [hc] at hms
        rw [wrap_succ i (by omega)]
        exact ih (i + 1) _ _ ⟨o, ⟨by omega, by rw [hms]; exact hgr⟩, by rw [hms]; rfl, by rw [hms]; rfl⟩ (by omega)
  · have : i = fs.length := by simp at h13; omega
    subst this
    simp only [List.take_length] at *
    refine Gs.exit rfl ?_
    refine Gs.sq (Gs.rg [5] fun K hK => ?_); simp (maxSteps:=9^7) only [go_sem]
    refine hK _ _ ?_; clear hK K
    refine Gs.ret hC Tryz.func54 (by simp [go_sem]) ?_
    simp only [go_sem]
    exact ⟨o, hgr, rfl, rfl⟩
theorem made_ptr (mks : List (ByteArray × Nat)) (b mb : Nat) (x0 x1 x3 : D) (fs : List ByteArray) (σ : Store) (hm : sget mb σ = some (.mp (mkE mks))) (hb : sget b σ = some (.arr 4 [.agg [x0, x1, .map mb, x3]])) (hl : fs.length < 2 ^ 30) :
    AC Tryz.prog 54 [.ptr b 4 0 0, .slc (fs.map sD)] σ (fun e σ' => ∃ o, GrD o 1 ((madeL mks fs).map nD) σ ∧ e = .ret (.own o 1 ((madeL mks fs).map nD).length) ∧ σ' = cellsOf o 1 ((madeL mks fs).map nD) ++ σ) := by
  have hll : (fs.map sD).length = fs.length := List.length_map ..
  refine AC.of_body Tryz.func54 rfl Tryz.ntmps54 (by simp) fun C hC => ?_
  refine Gs.sq (Gs.rg [0, 1] fun K hK => ?_); simp (maxSteps:=9^7) only [go_sem]
  refine hK _ _ ?_; clear hK K
  refine Gs.sq (Gs.rg [0, 1] fun K hK => ?_); simp (maxSteps:=9^7) only [go_sem]
  refine hK _ _ ?_; clear hK K
  refine Gs.sq (Gs.sq ?_)
  refine Gs.rg [0, 1, 5] fun K hK => ?_; simp (maxSteps:=9^7) only [go_sem]
  refine hK _ _ ?_; clear hK K
  refine Gs.bk ?_
  refine Gs.nilOwn 5 1 rfl ?_
  refine Gs.rebase [0, 5, 10, 11, 12] ?_
  simp only [go_sem]
  refine Gs.while (fun (i : Nat) env' σ'' => ∃ o : Option Nat, (i ≤ fs.length ∧ GrD o 1 ((madeL mks (fs.take i)).map nD) σ) ∧ env' = [(0, .ptr b 4 0 0), (5, .own o 1 ((madeL mks (fs.take i)).map nD).length), (10, .slc (fs.map sD)), (11, .v (.int .i64 (fs.length : Int))), (12, .v (.int .i64 (i : Int)))] ∧ σ'' = cellsOf o 1 ((madeL mks (fs.take i)).map nD) ++ σ) (fun (i : Nat) => fs.length - i) 0 ⟨none, ⟨by omega, GrD.nil _ _⟩, by rw [hll]; rfl, rfl⟩ ?_
  rintro i env' σ'' ⟨o, ⟨hi, hgr⟩, rfl, rfl⟩ ih
  have ih1 := ih
  refine Gs.sq (Gs.rg [0, 5, 10, 11, 12] fun K hK => ?_); simp (maxSteps:=9^7) only [go_sem]
  refine hK _ _ ?_; clear hK K
  refine Gs.sq ?_
  refine Gs.cond rfl (fun h13 => ?_) (fun h13 => ?_)
  · have hlt : i < fs.length := by simpa using h13
    have hg := getD_map_lt sD fs i hlt
    rw [sD] at hg
    have hi0 : (0 : Int) ≤ (i : Int) := by omega
    have hi1 : (i : Int) < ((fs.map sD).length : Int) := by omega
    have hm2 := hgr.keep hm
    have hb2 := hgr.keep hb
    have hfd := mfind_mkE mks fs[i]
    have hlk := mkE_like mks fs[i]
    have hms := madeL_succ mks fs i hlt
    have hlen := madeL_len mks fs i hi
    have ho := hgr.oget
    have hd := hgr.sdel
    have htk : List.take ((madeL mks (fs.take i)).map nD).length ((madeL mks (fs.take i)).map nD) = (madeL mks (fs.take i)).map nD := List.take_of_length_le (Nat.le_refl _)
    refine Gs.sk ?_
    refine Gs.sq ?_
    refine Gs.bk ?_
    refine Gs.sq (Gs.rg [0, 5, 10, 11, 12] fun K hK => ?_); simp (maxSteps:=9^7) only [go_sem, hg, hi0, hi1]
    refine hK _ _ ?_; clear hK K
    refine Gs.sq ?_
    rcases hlo : lookL mks fs[i] with _ | n
    all_goals simp only [hlo, Option.map_none, Option.map_some] at hfd hms
    · refine Gs.rg [0, 5, 7, 10, 11, 12] fun K hK => ?_; simp (maxSteps:=9^7) only [go_sem, hm2, hfd, hb2]
      refine ⟨⟨rfl, hlk⟩, ?_⟩
      refine hK _ _ ?_; clear hK K
      refine Gs.sq (Gs.rg [0, 5, 8, 9, 10, 11, 12] fun K hK => ?_); simp (maxSteps:=9^7) only [go_sem]
      refine hK _ _ ?_; clear hK K
      refine Gs.condF rfl ?_
      refine Gs.sk ?_
      refine Gs.ib ?_
      refine Gs.rg [0, 5, 10, 11, 12] fun K hK => ?_; simp (maxSteps:=9^7) only [go_sem]
      refine hK _ _ ?_; clear hK K
      refine Gs.rebase [0, 5, 10, 11, 12] ?_
      simp only [go_sem]
      rw [wrap_succ i (by omega)]
      exact ih (i + 1) _ _ ⟨o, ⟨by omega, by rw [hms]; exact hgr⟩, by rw [hms], by rw [hms]⟩ (by omega)
    · refine Gs.rg [0, 5, 7, 10, 11, 12] fun K hK => ?_; simp (maxSteps:=9^7) only [go_sem, hm2, hfd, hb2]
      refine ⟨⟨rfl, hlk⟩, ?_⟩
      refine hK _ _ ?_; clear hK K
      refine Gs.sq (Gs.rg [0, 5, 8, 9, 10, 11, 12] fun K hK => ?_); simp (maxSteps:=9^7) only [go_sem]
      refine ⟨_, Tryz.call91, (contains_intO ((madeL mks (fs.take i)).map fun k : Nat => (k : Int)) (n : Int) _ (by rw [← nD_eq]; exact ho) (by simp) (by simp; omega)).mono ?_⟩
      rintro e σ1 ⟨rfl, rfl⟩
      simp only [go_sem, any_nat]
      refine hK _ _ ?_; clear hK K
      refine Gs.cond rfl (fun h31 => ?_) (fun h31 => ?_)
      · refine Gs.regionM [0, 5, 8, 10, 11, 12] [34] fun K hK => ?_; simp (maxSteps:=9^7) only [go_sem, ho, hd, htk]
        refine ⟨by decide, ⟨Nat.le_refl _, fun y hy => by rw [hy]; exact ⟨rfl, rfl⟩, by simp only [List.length_map]; omega, by simp only [List.length_map]; omega⟩, fun ob hz hf => ?_⟩
        refine hK _ _ ?_; clear hK K
        refine Gs.ib ?_
        refine Gs.rg [0, 5, 10, 11, 12] fun K hK => ?_; simp (maxSteps:=9^7) only [go_sem]
        refine hK _ _ ?_; clear hK K
        refine Gs.rebase [0, 5, 10, 11, 12] ?_
        simp only [go_sem]
        have hc : (madeL mks (fs.take i)).contains n = false := by simpa using h31
        rw [hc] at hms
        have e1 : (madeL mks (fs.take i)).map nD ++ [nD n] = (madeL mks (fs.take (i + 1))).map nD := by rw [hms]; simp
        rw [wrap_succ i (by omega), e1]
        exact ih (i + 1) _ _ ⟨ob, ⟨by omega, by rw [← e1]; exact hgr.app hz hf⟩, rfl, rfl⟩ (by omega)
      · refine Gs.sk ?_
        refine Gs.ib ?_
        refine Gs.rg [0, 5, 10, 11, 12] fun K hK => ?_; simp (maxSteps:=9^7) only [go_sem]
        refine hK _ _ ?_; clear hK K
        refine Gs.rebase [0, 5, 10, 11, 12] ?_
        simp only [go_sem]
        have hc : (madeL mks (fs.take i)).contains n = true := by simpa using h31
        rw [hc] at hms
        rw [wrap_succ i (by omega)]
        exact ih (i + 1) _ _ ⟨o, ⟨by omega, by rw [hms]; exact hgr⟩, by rw [hms]; rfl, by rw [hms]; rfl⟩ (by omega)
  · have : i = fs.length := by simp at h13; omega
    subst this
    simp only [List.take_length] at *
    refine Gs.exit rfl ?_
    refine Gs.sq (Gs.rg [5] fun K hK => ?_); simp (maxSteps:=9^7) only [go_sem]
    refine hK _ _ ?_; clear hK K
    refine Gs.ret hC Tryz.func54 (by simp [go_sem]) ?_
    simp only [go_sem]
    exact ⟨o, hgr, rfl, rfl⟩
theorem made_calls (g : XGr) (mb : Nat) (fs : List ByteArray) (σ : Store) (hm : sget mb σ = some (.mp (mkE g.mks))) (hl : fs.length < 2 ^ 30) :
    AC Tryz.prog 54 [g.d mb, .slc (fs.map sD)] σ (fun e σ' => e = .ret (.slc ((madeL g.mks fs).map nD)) ∧ σ' = σ) :=
  AC.stillIn (AC.pubOwnIn (fun b hb => spub_mk b 1 mb _ g.mks hb) (made_own g mb fs [(mb, .mp (mkE g.mks))] (sget_self ..) hl)) (SLe.cons hm (SLe.nil _))
def ready (ah : List (List Nat)) (out : List Nat) (n : Nat) : Bool := !out.contains n && (ah.getD n []).all out.contains
def orderF (ah : List (List Nat)) (some_ : List Nat) : Nat → List Nat → List Nat
  | 0, out => out
  | k + 1, out => match some_.find? (ready ah out) with
    | some n => orderF ah some_ k (out ++ [n])
    | none => out
def orderL (ah : List (List Nat)) (some_ : List Nat) : List Nat := orderF ah some_ some_.length []
theorem nodup_sub_len : ∀ {l m : List Nat}, l.Nodup → (∀ x ∈ l, x ∈ m) → l.length ≤ m.length
  | [], _, _, _ => by simp
  | x :: l, m, hn, hs => by
    have hx : x ∈ m := hs x (by simp)
    have h1 := List.nodup_cons.1 hn
    have := nodup_sub_len (l := l) (m := m.erase x) h1.2 (fun y hy => by
      refine (List.mem_erase_of_ne ?_).2 (hs y (by simp [hy]))
      intro he; subst he; exact h1.1 hy)
    rw [List.length_erase_of_mem hx] at this
    have : 0 < m.length := List.length_pos_of_mem hx
    simp; omega
def mkDone (out : List Nat) : List (Value × D) := out.map fun n : Nat => (.int .i64 (n : Int), .v (.bool true))
theorem mfind_done (out : List Nat) (n : Nat) : (mfind (.int .i64 (n : Int)) (mkDone out)).getD (.v (.bool false)) = .v (.bool (out.contains n)) := by
  induction out with
  | nil => rfl
  | cons k r ih =>
    show (if keyEq (.int .i64 (n : Int)) (.int .i64 (k : Int)) = true then some (D.v (.bool true)) else mfind (.int .i64 (n : Int)) (mkDone r)).getD _ = _
    rw [List.contains_cons]
    show (if (IntKind.i64 == IntKind.i64 && (n : Int) == (k : Int)) = true then some (D.v (.bool true)) else mfind (.int .i64 (n : Int)) (mkDone r)).getD _ = _
    by_cases h : n = k
    · subst h; simp
    · have h1 : ((n : Int) == (k : Int)) = false := by simp; omega
      have h2 : (n == k) = false := by simp [h]
      rw [h1, h2]
      simpa using ih
theorem mset_done (out : List Nat) (n : Nat) (h : out.contains n = false) : mset (.int .i64 (n : Int)) (.v (.bool true)) (mkDone out) = mkDone (out ++ [n]) := by
  induction out with
  | nil => rfl
  | cons k r ih =>
    rw [List.contains_cons, Bool.or_eq_false_iff] at h
    have hk : n ≠ k := by simpa using h.1
    show (if keyEq (.int .i64 (n : Int)) (.int .i64 (k : Int)) = true then _ else _) = _
    have h1 : keyEq (.int .i64 (n : Int)) (.int .i64 (k : Int)) = false := by
      show (IntKind.i64 == IntKind.i64 && (n : Int) == (k : Int)) = false
      simp; omega
    rw [h1]
    simp only [Bool.false_eq_true, if_false]
    rw [show mset (.int .i64 (n : Int)) (.v (.bool true)) (List.map (fun n : Nat => (Value.int .i64 (n : Int), D.v (.bool true))) r) = mkDone (r ++ [n]) from ih h.2]
    rfl
theorem done_like (out : List Nat) (n : Nat) : ∀ e ∈ mkDone out, keyLike (.int .i64) (.int .i64 (n : Int)) e.1 = true := fun e he => by
  obtain ⟨p, _, rfl⟩ := List.mem_map.1 he
  rfl
theorem find_ready {α : Type} {p : α → Bool} {l : List α} {i : Nat} (hi : i < l.length) (h0 : ∀ x ∈ l.take i, p x = false) (h : p l[i] = true) : l.find? p = some l[i] := by
  rw [List.find?_eq_some_iff_getElem]
  exact ⟨h, i, hi, rfl, fun j hj => by
    have := h0 (l[j]'(by omega)) (by rw [List.mem_take_iff_getElem]; exact ⟨j, by omega, rfl⟩)
    simpa using this⟩
theorem order_own (x0 x1 x2 : D) (ah : List (List Nat)) (sm : List Nat) (σ : Store) (hl : sm.length < 2 ^ 30) (hs : ∀ n ∈ sm, n < ah.length) (hah : ∀ l ∈ ah, l.length < 2 ^ 30) :
    AC Tryz.prog 56 [.elt [x0, x1, x2, .slc (ah.map fun l => .slc (l.map nD))], .slc (sm.map nD)] σ
      (fun e σ' => ∃ o, GrD o 1 ((orderL ah sm).map nD) σ ∧ e = .ret (.own o 1 ((orderL ah sm).map nD).length) ∧ σ' = cellsOf o 1 ((orderL ah sm).map nD) ++ σ) := by
  have hll : (sm.map nD).length = sm.length := List.length_map ..
  have hal : (ah.map fun l => D.slc (l.map nD)).length = ah.length := List.length_map ..
  refine AC.of_body Tryz.func56 rfl Tryz.ntmps56 (by simp) fun C hC => ?_
  refine Gs.sq (Gs.rg [0, 1] fun K hK => ?_); simp (maxSteps:=9^7) only [go_sem]
  refine hK _ _ ?_; clear hK K
  refine Gs.scope ?_
  refine Gs.sq (Gs.rg [0, 1] fun K hK => ?_); simp (maxSteps:=9^7) only [go_sem]
  intro db hdb
  refine hK _ _ ?_; clear hK K
  refine Gs.sq (Gs.rg [0, 1, 5] fun K hK => ?_); simp (maxSteps:=9^7) only [go_sem]
  refine hK _ _ ?_; clear hK K
  refine Gs.sq ?_
  refine Gs.label ?_
  refine Gs.bk ?_
  refine Gs.nilOwn 6 1 rfl ?_
  refine Gs.rebase [0, 1, 5, 6] ?_
  simp only [go_sem]
  refine Gs.while (fun (out : List Nat) env' σ'' => ∃ o : Option Nat, (out.Nodup ∧ (∀ n ∈ out, n ∈ sm) ∧ orderF ah sm (sm.length - out.length) out = orderL ah sm ∧ GrD o 1 (out.map nD) ((db, .mp (mkDone out)) :: σ)) ∧ env' = [(0, .elt [x0, x1, x2, .slc (ah.map fun l => .slc (l.map nD))]), (1, .slc (sm.map nD)), (5, .map db), (6, .own o 1 (out.map nD).length)] ∧ σ'' = cellsOf o 1 (out.map nD) ++ (db, .mp (mkDone out)) :: σ) (fun (out : List Nat) => sm.length + 1 - out.length) [] ⟨none, ⟨List.nodup_nil, by simp, rfl, GrD.nil _ _⟩, rfl, rfl⟩ ?_
  rintro out env' σ'' ⟨o, ⟨hnd, hsub, hfin, hgr⟩, rfl, rfl⟩ ih
  have ih1 := ih
  have hol := nodup_sub_len hnd hsub
  have hm2 := hgr.keep (sget_self db (.mp (mkDone out)) σ)
  have ho := hgr.oget
  have hd := hgr.sdel
  have htk : List.take (out.map nD).length (out.map nD) = out.map nD := List.take_of_length_le (Nat.le_refl _)
  generalize hτ : cellsOf o 1 (out.map nD) ++ (db, AObj.mp (mkDone out)) :: σ = τ at hm2 ho hd ⊢
  refine Gs.bk ?_
  refine Gs.scope ?_
  refine Gs.sq ?_
  refine Gs.label ?_
  refine Gs.sq (Gs.sq ?_)
  refine Gs.rg [0, 1, 5, 6] fun K hK => ?_; simp (maxSteps:=9^7) only [go_sem]
  refine hK _ _ ?_; clear hK K
  refine Gs.bk ?_
  refine Gs.rebase [0, 1, 5, 6, 12, 13, 14] ?_
  simp only [go_sem]
  refine Gs.while (fun (i : Nat) env' σ'' => (i ≤ sm.length ∧ (∀ n ∈ sm.take i, ready ah out n = false)) ∧ env' = [(0, .elt [x0, x1, x2, .slc (ah.map fun l => .slc (l.map nD))]), (1, .slc (sm.map nD)), (5, .map db), (6, .own o 1 (out.map nD).length), (12, .slc (sm.map nD)), (13, .v (.int .i64 (sm.length : Int))), (14, .v (.int .i64 (i : Int)))] ∧ τ = σ'') (fun (i : Nat) => sm.length - i) 0 ⟨⟨by omega, by simp⟩, by rw [hll]; rfl, rfl⟩ ?_
  rintro i env' σ'' ⟨⟨hi, hno⟩, rfl, rfl⟩ ih
  have ih2 := ih
  refine Gs.sq (Gs.rg [0, 1, 5, 6, 12, 13, 14] fun K hK => ?_); simp (maxSteps:=9^7) only [go_sem]
  refine hK _ _ ?_; clear hK K
  refine Gs.sq ?_
  refine Gs.cond rfl (fun h15 => ?_) (fun h15 => ?_)
  · have hlt : i < sm.length := by simpa using h15
    have hg := getD_map_lt nD sm i hlt
    rw [nD] at hg
    have hi0 : (0 : Int) ≤ (i : Int) := by omega
    have hi1 : (i : Int) < ((sm.map nD).length : Int) := by omega
    have hn := hs sm[i] (List.getElem_mem hlt)
    have hg2 := getD_map_lt (fun l => D.slc (l.map nD)) ah sm[i] hn
    have hn0 : (0 : Int) ≤ (sm[i] : Int) := by omega
    have hn1 : (sm[i] : Int) < ((ah.map fun l => D.slc (l.map nD)).length : Int) := by omega
    have hfd := mfind_done out sm[i]
    have hlk := done_like out sm[i]
    refine Gs.sk ?_
    refine Gs.sq ?_
    refine Gs.bk ?_
    refine Gs.sq (Gs.rg [0, 1, 5, 6, 12, 13, 14] fun K hK => ?_); simp (maxSteps:=9^7) only [go_sem, hg, hi0, hi1]
    refine hK _ _ ?_; clear hK K
    refine Gs.sq (Gs.sq ?_)
    refine Gs.rg [0, 1, 5, 6, 8, 12, 13, 14] fun K hK => ?_; simp (maxSteps:=9^7) only [go_sem, hm2, hfd]
    refine ⟨⟨rfl, hlk⟩, ?_⟩
    refine hK _ _ ?_; clear hK K
    refine Gs.cond rfl (fun h20 => ?_) (fun h20 => ?_)
    · have hrd : ready ah out sm[i] = false := by unfold ready; rw [h20]; rfl
      refine Gs.exit rfl ?_
      refine Gs.rg [0, 1, 5, 6, 12, 13, 14] fun K hK => ?_; simp (maxSteps:=9^7) only [go_sem]
      refine hK _ _ ?_; clear hK K
      refine Gs.rebase [0, 1, 5, 6, 12, 13, 14] ?_
      simp only [go_sem]
      rw [wrap_succ i (by omega)]
      exact ih2 (i + 1) _ _ ⟨⟨by omega, take_succ_none hlt hno hrd⟩, rfl, rfl⟩ (by omega)
    · have hnc : out.contains sm[i] = false := h20
      have hla : (ah[sm[i]].map nD).length = ah[sm[i]].length := List.length_map ..
      have hal2 := hah _ (List.getElem_mem hn)
      have hgd : ah.getD sm[i] [] = ah[sm[i]] := getD_lt ah sm[i] [] hn
      refine Gs.sk ?_
      refine Gs.sq (Gs.sq ?_)
      refine Gs.rg [0, 1, 5, 6, 8, 12, 13, 14] fun K hK => ?_; simp (maxSteps:=9^7) only [go_sem, hg2, hn0, hn1]
      refine hK _ _ ?_; clear hK K
      refine Gs.bk ?_
      refine Gs.rebase [0, 1, 5, 6, 8, 12, 13, 14, 27, 28, 29] ?_
      simp only [go_sem]
      refine Gs.while (fun (j : Nat) env' σ'' => (j ≤ ah[sm[i]].length ∧ ∀ y ∈ ah[sm[i]].take j, out.contains y = true) ∧ env' = [(0, .elt [x0, x1, x2, .slc (ah.map fun l => .slc (l.map nD))]), (1, .slc (sm.map nD)), (5, .map db), (6, .own o 1 (out.map nD).length), (8, .v (.int .i64 (sm[i] : Int))), (12, .slc (sm.map nD)), (13, .v (.int .i64 (sm.length : Int))), (14, .v (.int .i64 (i : Int))), (27, .slc (ah[sm[i]].map nD)), (28, .v (.int .i64 (ah[sm[i]].length : Int))), (29, .v (.int .i64 (j : Int)))] ∧ τ = σ'') (fun (j : Nat) => ah[sm[i]].length - j) 0 ⟨⟨by omega, by simp⟩, by rw [hla]; rfl, rfl⟩ ?_
      rintro j env' σ'' ⟨⟨hj, hall⟩, rfl, rfl⟩ ih
      have ih3 := ih
      refine Gs.sq (Gs.rg [0, 1, 5, 6, 8, 12, 13, 14, 27, 28, 29] fun K hK => ?_); simp (maxSteps:=9^7) only [go_sem]
      refine hK _ _ ?_; clear hK K
      refine Gs.sq ?_
      refine Gs.cond rfl (fun h30 => ?_) (fun h30 => ?_)
      · have hltj : j < ah[sm[i]].length := by simpa using h30
        have hg3 := getD_map_lt nD ah[sm[i]] j hltj
        rw [nD] at hg3
        have hj0 : (0 : Int) ≤ (j : Int) := by omega
        have hj1 : (j : Int) < ((ah[sm[i]].map nD).length : Int) := by omega
        have hfd3 := mfind_done out ah[sm[i]][j]
        have hlk3 := done_like out ah[sm[i]][j]
        refine Gs.sk ?_
        refine Gs.sq ?_
        refine Gs.bk ?_
        refine Gs.sq (Gs.rg [0, 1, 5, 6, 8, 12, 13, 14, 27, 28, 29] fun K hK => ?_); simp (maxSteps:=9^7) only [go_sem, hg3, hj0, hj1]
        refine hK _ _ ?_; clear hK K
        refine Gs.sq (Gs.rg [0, 1, 5, 6, 8, 10, 12, 13, 14, 27, 28, 29] fun K hK => ?_); simp (maxSteps:=9^7) only [go_sem, hm2, hfd3]
        refine ⟨⟨rfl, hlk3⟩, ?_⟩
        refine hK _ _ ?_; clear hK K
        refine Gs.cond rfl (fun h36 => ?_) (fun h36 => ?_)
        · have hrd : ready ah out sm[i] = false := by
            unfold ready
            rw [hgd]
            have hf : ah[sm[i]].all out.contains = false := List.all_eq_false.2 ⟨ah[sm[i]][j], List.getElem_mem hltj, by simpa using h36⟩
            rw [hf, Bool.and_false]
          refine Gs.exit rfl ?_
          refine Gs.rg [0, 1, 5, 6, 12, 13, 14] fun K hK => ?_; simp (maxSteps:=9^7) only [go_sem]
          refine hK _ _ ?_; clear hK K
          refine Gs.rebase [0, 1, 5, 6, 12, 13, 14] ?_
          simp only [go_sem]
          rw [wrap_succ i (by omega)]
          exact ih2 (i + 1) _ _ ⟨⟨by omega, take_succ_none hlt hno hrd⟩, rfl, rfl⟩ (by omega)
        · refine Gs.sk ?_
          refine Gs.ib ?_
          refine Gs.rg [0, 1, 5, 6, 8, 12, 13, 14, 27, 28, 29] fun K hK => ?_; simp (maxSteps:=9^7) only [go_sem]
          refine hK _ _ ?_; clear hK K
          refine Gs.rebase [0, 1, 5, 6, 8, 12, 13, 14, 27, 28, 29] ?_
          simp only [go_sem]
          rw [wrap_succ j (by omega)]
          refine ih (j + 1) _ _ ⟨⟨by omega, fun y hy => ?_⟩, rfl, rfl⟩ (by omega)
          rw [List.take_succ_eq_append_getElem hltj] at hy
          rcases List.mem_append.1 hy with hy | hy
          · exact hall y hy
          · simp only [List.mem_singleton] at hy; rw [hy]; simpa using h36
      · have hje : j = ah[sm[i]].length := by simp at h30; omega
        subst hje
        rw [List.take_length] at hall
        have hrd : ready ah out sm[i] = true := by
          unfold ready
          rw [hgd, hnc, List.all_eq_true.2 hall]; rfl
        have hfind := find_ready hlt hno hrd
        have hms := mset_done out sm[i] hnc
        have hss : sset db (.mp (mkDone (out ++ [sm[i]]))) τ = cellsOf o 1 (out.map nD) ++ (db, .mp (mkDone (out ++ [sm[i]]))) :: σ := by
          rw [← hτ, hgr.sset (by simp), sset_self]
        have hgr2 := hgr.ssetR db (.mp (mkDone (out ++ [sm[i]])))
        rw [sset_self] at hgr2
        have ho2 := hgr2.oget
        have hd2 := hgr2.sdel
        refine Gs.exit rfl ?_
        refine Gs.sq (Gs.rg [0, 1, 5, 6, 8] fun K hK => ?_); simp (maxSteps:=9^7) only [go_sem, hm2, hms, hss]
        refine ⟨⟨rfl, hlk⟩, ?_⟩
        refine hK _ _ ?_; clear hK K
        refine Gs.sq ?_
        refine Gs.regionM [0, 1, 5, 6, 8] [42] fun K hK => ?_; simp (maxSteps:=9^7) only [go_sem, ho2, hd2, htk]
        refine ⟨by decide, ⟨Nat.le_refl _, fun y hy => by rw [hy]; exact ⟨rfl, rfl⟩, by simp only [List.length_map]; omega, by simp only [List.length_map]; omega⟩, fun ob hz hf => ?_⟩
        refine hK _ _ ?_; clear hK K
        refine Gs.exit rfl ?_
        refine Gs.rebase [0, 1, 5, 6] ?_
        simp only [go_sem]
        have hnm : sm[i] ∉ out := fun h => by rw [List.contains_iff_mem.2 h] at hnc; cases hnc
        have hnd2 : (out ++ [sm[i]]).Nodup := by
          rw [List.nodup_append]
          exact ⟨hnd, by simp, fun a ha b hb => by simp only [List.mem_singleton] at hb; rw [hb]; exact fun h => hnm (h ▸ ha)⟩
        have hsub2 : ∀ n ∈ out ++ [sm[i]], n ∈ sm := fun n hn => by
          rcases List.mem_append.1 hn with hn | hn
          · exact hsub n hn
          · simp only [List.mem_singleton] at hn; rw [hn]; exact List.getElem_mem hlt
        have hl2 := nodup_sub_len hnd2 hsub2
        simp only [List.length_append, List.length_singleton] at hl2
        have e1 : out.map nD ++ [D.v (.int .i64 (sm[i] : Int))] = (out ++ [sm[i]]).map nD := by simp [nD]
        rw [e1]
        refine ih1 (out ++ [sm[i]]) _ _ ⟨ob, ⟨hnd2, hsub2, ?_, ?_⟩, rfl, rfl⟩ (by simp; omega)
        · rw [← hfin, show sm.length - out.length = (sm.length - (out ++ [sm[i]]).length) + 1 by simp; omega]
          rw [orderF, hfind]
        · rw [← e1]; exact hgr2.app hz hf
  · have hie : i = sm.length := by simp at h15; omega
    subst hie
    rw [List.take_length] at hno
    have hnone : sm.find? (ready ah out) = none := List.find?_eq_none.2 fun x hx => by rw [hno x hx]; simp
    have hend : orderL ah sm = out := by
      rw [← hfin]
      cases sm.length - out.length with
      | zero => rfl
      | succ k => rw [orderF, hnone]
    refine Gs.exit rfl ?_
    refine Gs.sq ?_
    rw [← hτ]
    refine Gs.le (ELe.refl _) (hgr.drop hdb).2 ?_
    refine Gs.rg [6] fun K hK => ?_; simp (maxSteps:=9^7) only [go_sem]
    refine hK _ _ ?_; clear hK K
    refine Gs.ret hC Tryz.func56 (by simp [go_sem]) ?_
    simp only [go_sem]
    rw [hend]
    exact ⟨o, (hgr.drop hdb).1, rfl, rfl⟩
theorem order_calls (x0 x1 x2 : D) (ah : List (List Nat)) (sm : List Nat) (σ : Store) (hl : sm.length < 2 ^ 30) (hs : ∀ n ∈ sm, n < ah.length) (hah : ∀ l ∈ ah, l.length < 2 ^ 30) :
    AC Tryz.prog 56 [.elt [x0, x1, x2, .slc (ah.map fun l => .slc (l.map nD))], .slc (sm.map nD)] σ (fun e σ' => e = .ret (.slc ((orderL ah sm).map nD)) ∧ σ' = σ) :=
  AC.pubOwn (order_own x0 x1 x2 ah sm [] hl hs hah) σ
def vI (n : Nat) : Value := .int .i64 (n : Int)
@[go_sem] theorem toV_nD (n : Nat) : toV (nD n) = some (vI n) := rfl
def visitL (met ns : List Nat) : List Nat := ns.foldl (fun m n => if m.contains n then m else m ++ [n]) met
theorem visitL_succ (met ns : List Nat) (i : Nat) (h : i < ns.length) : visitL met (ns.take (i + 1)) = if (visitL met (ns.take i)).contains ns[i] then visitL met (ns.take i) else visitL met (ns.take i) ++ [ns[i]] := by
  unfold visitL
  rw [List.take_succ_eq_append_getElem h, List.foldl_append]
  rfl
theorem visitL_cons (met ns : List Nat) (n : Nat) : visitL met (n :: ns) = visitL (if met.contains n then met else met ++ [n]) ns := rfl
theorem visitL_le : ∀ (ns met : List Nat), met.length ≤ (visitL met ns).length
  | [], met => Nat.le_refl _
  | n :: ns, met => by
    rw [visitL_cons]
    split
    · exact visitL_le ns met
    · exact Nat.le_trans (by simp) (visitL_le ns _)
theorem visitL_nodup : ∀ (ns met : List Nat), met.Nodup → (visitL met ns).Nodup
  | [], met, h => h
  | n :: ns, met, h => by
    rw [visitL_cons]
    split
    · exact visitL_nodup ns met h
    · rename_i hn
      refine visitL_nodup ns _ ?_
      rw [List.nodup_append]
      exact ⟨h, by simp, fun a ha b hb => by simp only [List.mem_singleton] at hb; rw [hb]; exact fun e => hn (by rw [List.contains_iff_mem]; exact e ▸ ha)⟩
theorem visitL_mem : ∀ (ns met : List Nat) (x : Nat), x ∈ visitL met ns ↔ x ∈ met ∨ x ∈ ns
  | [], met, x => by simp [visitL]
  | n :: ns, met, x => by
    rw [visitL_cons, visitL_mem ns]
    split
    · rename_i hn
      rw [List.contains_iff_mem] at hn
      constructor
      · rintro (h | h)
        · exact .inl h
        · exact .inr (.tail _ h)
      · rintro (h | h)
        · exact .inl h
        · rcases List.mem_cons.1 h with rfl | h
          · exact .inl hn
          · exact .inr h
    · rw [List.mem_append, List.mem_singleton, List.mem_cons]
      constructor
      · rintro ((h | h) | h)
        · exact .inl h
        · exact .inr (.inl h)
        · exact .inr (.inr h)
      · rintro (h | h | h)
        · exact .inl (.inl h)
        · exact .inl (.inr h)
        · exact .inr h
theorem visitL_pre : ∀ (ns met : List Nat), ∃ r, visitL met ns = met ++ r
  | [], met => ⟨[], by simp [visitL]⟩
  | n :: ns, met => by
    rw [visitL_cons]
    split
    · exact visitL_pre ns met
    · obtain ⟨r, hr⟩ := visitL_pre ns (met ++ [n])
      exact ⟨n :: r, by rw [hr]; simp⟩
def rdS (bq cb bm db cap : Nat) (met q : List Nat) (σ : Store) : Store := (bq, .arr 1 [.v (.chan (some cb))]) :: (cb, .ch cap (q.map vI)) :: (bm, .arr 1 [.map db]) :: (db, .mp (mkDone met)) :: σ
structure RdN (bq cb bm db : Nat) : Prop where
  qc : bq ≠ cb
  qm : bq ≠ bm
  qd : bq ≠ db
  cm : cb ≠ bm
  cd : cb ≠ db
  md : bm ≠ db
variable {bq cb bm db cap : Nat} {met q : List Nat} {σ : Store}
theorem rd_q : sget bq (rdS bq cb bm db cap met q σ) = some (.arr 1 [.v (.chan (some cb))]) := by simp [rdS, sget]
theorem rd_c (h : RdN bq cb bm db) : sget cb (rdS bq cb bm db cap met q σ) = some (.ch cap (q.map vI)) := by simp [rdS, sget, h.qc.symm]
theorem rd_m (h : RdN bq cb bm db) : sget bm (rdS bq cb bm db cap met q σ) = some (.arr 1 [.map db]) := by simp [rdS, sget, h.qm.symm, h.cm.symm]
theorem rd_d (h : RdN bq cb bm db) : sget db (rdS bq cb bm db cap met q σ) = some (.mp (mkDone met)) := by simp [rdS, sget, h.qd.symm, h.cd.symm, h.md.symm]
theorem rd_sc (h : RdN bq cb bm db) (q' : List Nat) : sset cb (.ch cap (q'.map vI)) (rdS bq cb bm db cap met q σ) = rdS bq cb bm db cap met q' σ := by simp [rdS, sset, h.qc.symm]
theorem rd_sd (h : RdN bq cb bm db) (met' : List Nat) : sset db (.mp (mkDone met')) (rdS bq cb bm db cap met q σ) = rdS bq cb bm db cap met' q σ := by simp [rdS, sset, h.qd.symm, h.cd.symm, h.md.symm]
theorem at0 {α : Type} (a : α) (l : List α) : (a :: l).toArray[0]? = some a := rfl
theorem at1 {α : Type} (a b : α) (l : List α) : (a :: b :: l).toArray[1]? = some b := rfl
theorem at2 {α : Type} (a b c : α) (l : List α) : (a :: b :: c :: l).toArray[2]? = some c := rfl
theorem dstB_lit {n j : Nat} (h : j < n := by decide) : dstB ⟨n, []⟩ (some j) := ⟨h, trivial⟩
theorem reached1_calls (h : RdN bq cb bm db) (ns met : List Nat) (k B : Nat) (hl : ns.length < 2 ^ 30) (hcap : B < cap) (hns : ∀ n ∈ ns, n < B) (hmet : ∀ n ∈ met, n < B) (hnd : met.Nodup) (hk : k ≤ met.length) :
    AC Tryz.prog 99 [.slc (ns.map nD), .ptr bm 1 0 0, .ptr bq 1 0 0] (rdS bq cb bm db cap met (met.drop k) σ)
      (fun e σ' => e = .ret (.tup []) ∧ σ' = rdS bq cb bm db cap (visitL met ns) ((visitL met ns).drop k) σ) := by
  have hll : (ns.map nD).length = ns.length := List.length_map ..
  refine AC.of_body Tryz.func99 rfl Tryz.ntmps99 (by simp) fun C hC => ?_
  refine Gs.sq (Gs.rg [0, 1, 2] fun K hK => ?_); simp (maxSteps:=9^7) only [go_sem]
  refine hK _ _ ?_; clear hK K
  refine Gs.bk ?_
  refine Gs.rebase [1, 2, 6, 7, 8] ?_
  simp only [go_sem]
  refine Gs.while (fun (i : Nat) env' σ'' => (i ≤ ns.length) ∧ env' = [(1, .ptr bm 1 0 0), (2, .ptr bq 1 0 0), (6, .slc (ns.map nD)), (7, .v (.int .i64 (ns.length : Int))), (8, .v (.int .i64 (i : Int)))] ∧ σ'' = rdS bq cb bm db cap (visitL met (ns.take i)) ((visitL met (ns.take i)).drop k) σ) (fun (i : Nat) => ns.length - i) 0 ⟨by omega, by rw [hll]; rfl, rfl⟩ ?_
  rintro i env' σ'' ⟨hi, rfl, rfl⟩ ih
  have ih1 := ih
  refine Gs.sq (Gs.rg [1, 2, 6, 7, 8] fun K hK => ?_); simp (maxSteps:=9^7) only [go_sem]
  refine hK _ _ ?_; clear hK K
  refine Gs.sq ?_
  refine Gs.cond rfl (fun h9 => ?_) (fun h9 => ?_)
  · have hlt : i < ns.length := by simpa using h9
    have hg := getD_map_lt nD ns i hlt
    rw [nD] at hg
    have hi0 : (0 : Int) ≤ (i : Int) := by omega
    have hi1 : (i : Int) < ((ns.map nD).length : Int) := by omega
    have hsu := visitL_succ met ns i hlt
    have hq := @rd_q bq cb bm db cap (visitL met (ns.take i)) ((visitL met (ns.take i)).drop k) σ
    have hm := @rd_m bq cb bm db cap (visitL met (ns.take i)) ((visitL met (ns.take i)).drop k) σ h
    have hd := @rd_d bq cb bm db cap (visitL met (ns.take i)) ((visitL met (ns.take i)).drop k) σ h
    have hfd := mfind_done (visitL met (ns.take i)) ns[i]
    have hlk := done_like (visitL met (ns.take i)) ns[i]
    have hvn := visitL_nodup (ns.take i) met hnd
    have hvB : ∀ x ∈ visitL met (ns.take i), x < B := fun x hx => by
      rcases (visitL_mem (ns.take i) met x).1 hx with hx | hx
      · exact hmet x hx
      · exact hns x (List.mem_of_mem_take hx)
    have hvl := nodup_sub_len hvn (m := List.range B) (fun x hx => List.mem_range.2 (hvB x hx))
    rw [List.length_range] at hvl
    have hvk : k ≤ (visitL met (ns.take i)).length := Nat.le_trans hk (visitL_le (ns.take i) met)
    refine Gs.sk ?_
    refine Gs.sq ?_
    refine Gs.bk ?_
    refine Gs.sq (Gs.rg [1, 2, 6, 7, 8] fun K hK => ?_); simp (maxSteps:=9^7) only [go_sem, hg, hi0, hi1]
    refine hK _ _ ?_; clear hK K
    refine Gs.sq (Gs.rg [1, 2, 5, 6, 7, 8] fun K hK => ?_); simp (maxSteps:=9^7) only [go_sem, hm, hd, hfd]
    refine ⟨⟨rfl, hlk⟩, ?_⟩
    refine hK _ _ ?_; clear hK K
    refine Gs.cond rfl (fun h15 => ?_) (fun h15 => ?_)
    · have hnc : (visitL met (ns.take i)).contains ns[i] = false := by simpa using h15
      rw [hnc] at hsu
      have hms := mset_done (visitL met (ns.take i)) ns[i] hnc
      have hsd := @rd_sd bq cb bm db cap (visitL met (ns.take i)) ((visitL met (ns.take i)).drop k) σ h (visitL met (ns.take i) ++ [ns[i]])
      refine Gs.sq (Gs.rg [1, 2, 5, 6, 7, 8] fun K hK => ?_); simp (maxSteps:=9^7) only [go_sem, hm, hd, hms, hsd]
      refine ⟨⟨rfl, hlk⟩, ?_⟩
      refine hK _ _ ?_; clear hK K
      refine Gs.regionOpen [1, 2, 5, 6, 7, 8] ?_
      refine Gs.op (at0 _ _) rfl nofun dstB_lit ?_
      simp only [go_sem, rd_q]
      refine Gs.op (at1 _ _ _) rfl nofun dstB_lit ?_
      simp only [go_sem]
      refine Gs.opSend hC.kind hC.round (at2 _ _ _ _) rfl rfl rfl rfl rfl (rd_c h) ?_ ?_
      · simp only [List.length_map, List.length_drop]; omega
      have hsc := @rd_sc bq cb bm db cap (visitL met (ns.take i) ++ [ns[i]]) ((visitL met (ns.take i)).drop k) σ h ((visitL met (ns.take i)).drop k ++ [ns[i]])
      rw [List.map_append] at hsc
      have hsc2 := hsc.trans (show _ = rdS bq cb bm db cap (visitL met (ns.take i) ++ [ns[i]]) ((visitL met (ns.take i) ++ [ns[i]]).drop k) σ by rw [List.drop_append_of_le_length hvk])
      refine Gs.regionEnd ?_
      refine (congrArg (Gs C _ _) hsc2).mpr ?_
      refine Gs.ib ?_
      refine Gs.rg [1, 2, 6, 7, 8] fun K hK => ?_; simp (maxSteps:=9^7) only [go_sem]
      refine hK _ _ ?_; clear hK K
      refine Gs.rebase [1, 2, 6, 7, 8] ?_
      simp only [go_sem]
      rw [wrap_succ i (by omega)]
      exact ih (i + 1) _ _ ⟨by omega, rfl, by rw [hsu]; rfl⟩ (by omega)
    · refine Gs.sk ?_
      refine Gs.ib ?_
      refine Gs.rg [1, 2, 6, 7, 8] fun K hK => ?_; simp (maxSteps:=9^7) only [go_sem]
      refine hK _ _ ?_; clear hK K
      refine Gs.rebase [1, 2, 6, 7, 8] ?_
      simp only [go_sem]
      have hc : (visitL met (ns.take i)).contains ns[i] = true := by simpa using h15
      rw [hc] at hsu
      rw [wrap_succ i (by omega)]
      exact ih (i + 1) _ _ ⟨by omega, rfl, by rw [hsu]; rfl⟩ (by omega)
  · have : i = ns.length := by simp at h9; omega
    subst this
    refine Gs.exit rfl ?_
    refine Gs.done hC Tryz.func99 (by simp [go_sem]) ?_
    simp only [go_sem]
    rw [List.take_length]
end Go.Ab.S16
namespace Go.Ab
open Go Go.RowKit
variable {P : Program} {f : FuncId} {args : List D} {σ : Store}
theorem flat_v (xs : List Value) : flat (xs.map D.v) = xs.map D.v := by
  induction xs with
  | nil => rfl
  | cons x xs ih => show (D.v x).cells ++ flat (xs.map D.v) = _; rw [ih]; rfl
theorem AC.of_row {e0 : TypeId} {R : List Value → Prop} (h : ∀ (w : World) (S : Nat → Prop) (vs : List Value), SOk w S → RepStore w S σ → RepL w S args vs → Calls P f vs.toArray w fun e w' => ∃ (v : Value) (xs : List Value), e = .returned v ∧ w'.ownsRow w.heap.size e0 1 v xs.length xs ∧ xs.all Value.oneCell' = true ∧ R xs ∧ Below w.heap.size w w') :
    AC P f args σ (fun e σ' => ∃ o xs, R xs ∧ GrD o 1 (xs.map .v) σ ∧ e = .ret (.own o 1 (xs.map D.v).length) ∧ σ' = cellsOf o 1 (xs.map .v) ++ σ) := by
  intro w S vs hS hst hr
  refine (h w S vs hS hst hr).mono ?_
  rintro e w' ⟨v, xs, rfl, ⟨hl, hrow⟩, hok, hR, hb⟩
  rcases hrow with ⟨rfl, hn⟩ | ⟨g, cap, cur, rfl, hbase, hg, hcap, hmax, hsz, htk⟩
  · obtain rfl : xs = [] := List.length_eq_zero_iff.1 hn
    exact ⟨.ret (.own none 1 0), σ, S, ⟨none, [], hR, GrD.nil _ _, rfl, rfl⟩, .own0, store_below hS.lt hst hb, fr_below hS.lt hb⟩
  · have hfr : sget g σ = none := by
      cases hs : sget g σ with
      | none => rfl
      | some o => have := (hst g o hs).2.lt; omega
    have hnS : ¬ S g := fun hs => by have := hS.lt g hs; omega
    have hF := fr_below (σ := σ) hS.lt hb
    refine ⟨.ret (.own (some g) 1 xs.length), (g, .arr 1 (xs.map .v)) :: σ, S, ⟨some g, xs, hR, ⟨fun b he => by cases he; exact hfr, nofun⟩, by rw [List.length_map], rfl⟩, ?_, ?_, ?_⟩
    · exact .own hg hcap (by omega) hmax
    · intro b o hbo
      rw [sget_cons] at hbo
      split at hbo
      · cases hbo
        rename_i hbg
        subst hbg
        refine ⟨hnS, cur, e0, 0, 0, xs, hg, ?_, ?_, ?_, .inl (Nat.le_refl _)⟩
        · rw [flat_v]; exact repL_v _ hok
        · intro k x hk
          rw [← htk, Nat.mul_one, List.getElem?_take] at hk
          split at hk
          · simpa using hk
          · cases hk
        · intro x hx
          obtain ⟨y, _, rfl⟩ := List.mem_map.1 hx
          rfl
      · exact store_below hS.lt hst hb b o hbo
    · refine { hF with dom := fun b hd => ?_ }
      unfold sdom at *
      rw [sget_cons] at hd
      by_cases hbg : b = g
      · exact .inr (by omega)
      · rw [if_neg hbg] at hd; exact .inl hd
end Go.Ab
