/- The end of a call; handing out what is one's own; contracts turned. -/
import Derived.Test.YtcpcfglccnmmnaaAbP
set_option linter.unusedSimpArgs false
set_option linter.unusedVariables false
set_option linter.constructorNameAsVariable false
namespace Go.Ab
open Go

section
variable {P : Program} {w : World} {S : Nat → Prop} {σ : Store}

theorem aLoad_ok {T : TypeId} {x d : D} {xv : Value} {pre : Prop} (hst : RepStore w S σ) (hx : Rep w S x xv) (h : aLoad P σ T x = .val pre d) (hp : pre) :
    ∃ ad v, xv = .pointer (some ad) ∧ (loadVar T ad).run P w = .ok v w ∧ Rep w S d v := by
  unfold aLoad at h
  split at h
  · rename_i n g cs hn hg
    cases h
    obtain ⟨b, off, vals, he, hb, hr, hc⟩ := elt_inv hx
    obtain ⟨v, hrun, hrep⟩ := rep_load (P := P) (w := w) (S := S) (b := b) (off := off) hn hg hp (fun j d hj => by
      obtain ⟨v, hv, hrep⟩ := hr.get j d hj
      exact ⟨v, hc j v hv, hrep⟩)
    exact ⟨_, v, he, hrun, hrep⟩
  · rename_i n g b sz i off hn hg
    split at h
    · rename_i sz' xs hs
      cases h
      obtain ⟨rfl, hi, hok⟩ := hp
      have hobj := (hst b _ hs).2
      obtain ⟨v, hrun, hrep⟩ := rep_load (P := P) (w := w) (S := S) (b := b) (off := i * sz' + off) hn hg hok (fun j d hj => arr_cell hobj hi off j d hj)
      exact ⟨_, v, ptr_inv hx, hrun, hrep⟩
    · cases h
  · cases h

theorem res_ok {env : Env} {tmps : Array Value} (henv : RepEnv w S env tmps) (hst : RepStore w S σ) : ∀ (rs : List ResultVar), (∀ r ∈ rs, resPre P env σ r) →
    ∃ vs, (rs.mapM (fun r => match r with | .tmp t => pure (tmps.getD t undef) | .cell a t => do loadVar t (← asAddr (tmps.getD a undef)) : ResultVar → Sem Value)).run P w = .ok vs w ∧ RepL w S (rs.map fun r => (resOne P env σ r).getD .any) vs
  | [], _ => ⟨[], rfl, .nil⟩
  | r :: rs, h => by
    obtain ⟨vs, hrun, hrep⟩ := res_ok henv hst rs (fun r hr => h r (by simp [hr]))
    have h1 : ∃ v, (match r with | .tmp t => pure (tmps.getD t undef) | .cell a t => do loadVar t (← asAddr (tmps.getD a undef)) : Sem Value).run P w = .ok v w ∧ Rep w S ((resOne P env σ r).getD .any) v := by
      have hp := h r (by simp)
      cases r with
      | tmp t => exact ⟨_, rfl, henv t⟩
      | cell t T =>
        simp only [resPre] at hp
        simp only [resOne]
        split at hp
        · rename_i pre d hl
          obtain ⟨ad, v, he, hrun, hrep⟩ := aLoad_ok hst (henv t) hl hp
          refine ⟨v, ?_, hrep⟩
          simp only [he, asAddr, Sem.run_bind, Sem.run_pure, Result.andThen_ok, hrun]
        · exact hp.elim
    obtain ⟨v, hv, hvr⟩ := h1
    refine ⟨v :: vs, ?_, .cons hvr hrep⟩
    simp only [List.mapM_cons, Sem.run_bind, hv, Result.andThen_ok, hrun, Sem.run_pure]

theorem results_ok {fn : Func} {env : Env} {tmps : Array Value} (henv : RepEnv w S env tmps) (hst : RepStore w S σ) (h : ∀ r ∈ fn.results.toList, resPre P env σ r) :
    ∃ v, (results fn tmps).run P w = .ok v w ∧ Rep w S (resD P env σ fn.results.toList) v := by
  obtain ⟨vs, hrun, hrep⟩ := res_ok henv hst fn.results.toList h
  unfold results
  rw [Sem.run_bind, Array.mapM_eq_mapM_toList, Sem.run_map]
  erw [hrun]
  unfold resD
  have hlen := hrep.length
  match hrs : fn.results.toList, vs, hrep, hlen with
  | [], vs, hrep, hlen =>
    have : vs = [] := hrep.nil_inv
    subst this
    exact ⟨.tuple #[], rfl, .tup .nil⟩
  | [r], vs, hrep, hlen =>
    obtain ⟨v, vs', rfl, h1, h2⟩ := hrep.cons_inv
    have : vs' = [] := h2.nil_inv
    subst this
    exact ⟨v, rfl, h1⟩
  | r :: r' :: rs, vs, hrep, hlen =>
    refine ⟨.tuple vs.toArray, ?_, .tup hrep⟩
    have hne : ¬ vs.toArray.size = 1 := by simp at hlen ⊢; omega
    simp only [Result.andThen_ok, dif_neg hne, Sem.run_pure]

end

section
variable {P : Program} {N : Slots} {C : Ctx P N} {k : List Item} {env : Env} {σ : Store} {f : FuncId} {fn : Func} {R : AEnd → Store → Prop}

theorem end_of {m : Machine} {w0 : World} {S0 : Nat → Prop} {σ0 : Store} {cs : List Frame} {a : Act} {todo : List Item} {w : World} {S : Nat → Prop} (hf : P.funcs[f]? = some fn) (hd : a.defers = [])
    (henv : RepEnv w S env a.tmps) (hst : RepStore w S σ) (hfr : Fr w0 S0 (sdom σ0) w S σ) (hres : ∀ r ∈ fn.results.toList, resPre P env σ r) (hR : R (.ret (resD P env σ fn.results.toList)) σ)
    (hs : Steps P m (lone { ({ (default : Frame) with fn := f, kind := .normal } : Frame).at a todo with mode := .returning } cs w)) : EndOk P f w0 S0 σ0 R cs m := by
  obtain ⟨v, hrun, hrep⟩ := results_ok (fn := fn) henv hst hres
  exact ⟨.returned v, w, _, ⟨_, σ, S, hR, hrep, hst, hfr⟩, hs, rfl, rfl, hd, rfl, fn, hf, hrun⟩

theorem Goes.ret (hC : IsCall C f R) (hf : P.funcs[f]? = some fn) (hres : ∀ r ∈ fn.results.toList, resPre P env σ r) (hR : R (.ret (resD P env σ fn.results.toList)) σ) : Goes C (.code .ret :: k) env σ := by
  obtain ⟨w0, S0, σ0, hS, hst, cs, rfl⟩ := hC.ex
  intro a w S hd hs
  exact end_of hf hd hs.env hs.store hs.fr hres hR (.one step_ret)

theorem Goes.done (hC : IsCall C f R) (hf : P.funcs[f]? = some fn) (hres : ∀ r ∈ fn.results.toList, resPre P env σ r) (hR : R (.ret (resD P env σ fn.results.toList)) σ) : Goes C [] env σ := by
  obtain ⟨w0, S0, σ0, hS, hst, cs, rfl⟩ := hC.ex
  intro a w S hd hs
  exact end_of hf hd hs.env hs.store hs.fr hres hR (.one step_end)

theorem Pan.of (hC : IsCall C f R) (hf : P.funcs[f]? = some fn) {d : D} (hR : R (.panic d) σ) : Pan C d σ := by
  obtain ⟨w0, S0, σ0, hS, hst, cs, rfl⟩ := hC.ex
  intro a todo w S v hd hv hst' hfr _
  exact ⟨.panicked [{ v, recovered := false }], w, _, ⟨_, σ, S, hR, ⟨v, rfl, hv⟩, hst', hfr⟩, Steps.refl P _, rfl, rfl, hd, fn, hf⟩

end

/-! Handing out a row of one's own: from here on it is only read. -/

mutual
def D.pub (b : Nat) (sz : Nat) (xs : List D) : D → D
  | .own (some c) s n => if c = b ∧ s = sz ∧ n ≤ xs.length then .slc (xs.take n) else .own (some c) s n
  | .agg cs => .agg (pubs b sz xs cs)
  | .tup cs => .tup (pubs b sz xs cs)
  | .clo fn f c => .clo fn (pubs b sz xs f) (pubs b sz xs c)
  | .ifc t x => .ifc t (D.pub b sz xs x)
  | d => d
def pubs (b : Nat) (sz : Nat) (xs : List D) : List D → List D
  | [] => []
  | d :: r => D.pub b sz xs d :: pubs b sz xs r
end

theorem pubs_map (b sz : Nat) (xs : List D) : ∀ ds, pubs b sz xs ds = ds.map (D.pub b sz xs)
  | [] => rfl
  | d :: ds => by rw [pubs, pubs_map b sz xs ds]; rfl

theorem pub_cells (b sz : Nat) (xs : List D) (d : D) : (d.pub b sz xs).cells = d.cells.map (D.pub b sz xs) := by
  cases d with
  | agg cs => simp [D.pub, D.cells, pubs_map]
  | own c s n =>
    cases c with
    | none => simp [D.pub, D.cells]
    | some c =>
      show (if c = b ∧ s = sz ∧ n ≤ xs.length then D.slc (xs.take n) else D.own (some c) s n).cells = [D.pub b sz xs (.own (some c) s n)]
      simp only [D.pub]
      by_cases hc : c = b ∧ s = sz ∧ n ≤ xs.length
      · rw [if_pos hc]; rfl
      · rw [if_neg hc]; rfl
  | _ => simp [D.pub, D.cells]

theorem flat_pubs (b sz : Nat) (xs : List D) : ∀ ds : List D, flat (ds.map (D.pub b sz xs)) = (flat ds).map (D.pub b sz xs)
  | [] => rfl
  | d :: ds => by simp [pub_cells, flat_pubs b sz xs ds]

section
variable {w : World} {S S' : Nat → Prop} {b sz : Nat} {xs : List D}

mutual
theorem rep_pub (hE : Ev w S w S') (hb : S' b) (ho : RepObj w S b (.arr sz xs)) : ∀ {d : D} {v : Value}, Rep w S d v → Rep w S' (d.pub b sz xs) v
  | _, _, .any => .any
  | _, _, .v h => .v h
  | _, _, .ptr => .ptr
  | _, _, .elt h1 h2 h3 => (Rep.elt h1 h2 h3).ev hE
  | _, _, .slc0 => .slc0
  | _, _, .slc h1 h2 h3 h4 h5 => (Rep.slc h1 h2 h3 h4 h5).ev hE
  | _, _, .own0 => .own0
  | .own (some c) s n, _, .own (cap := cap) hh hn hc hm => by
    simp only [D.pub]
    split
    · rename_i hcond
      obtain ⟨rfl, rfl, hle⟩ := hcond
      obtain ⟨c', e', lo, hi, vals, hh', hr, hcv, hs, hfz⟩ := ho
      have hlen : (xs.take n).length = n := by simp; omega
      have key : Rep w S' (.slc (xs.take n)) (.slice (some ⟨c, 0, none⟩) (xs.take n).length cap) := by
       refine Rep.slc (sz := s) hb (vals := vals.take (n * s)) (by rw [flat_take xs n hs]; exact (hr.take _).ev hE) (fun k x hk => ?_) (fun y hy => hs y (List.mem_of_mem_take hy)) (by rw [hlen]; exact hn)
       rw [List.getElem?_take] at hk
       split at hk
       · rw [Nat.zero_add, cells_of_row hh']; exact hcv k x hk
       · cases hk
      rw [hlen] at key
      exact key
    · exact .own hh hn hc hm
  | _, _, .agg hr => .agg (repL_pub hE hb ho hr)
  | _, _, .tup hr => .tup (repL_pub hE hb ho hr)
  | _, _, .map => .map
  | _, _, .clo hf hc => .clo (repL_pub hE hb ho hf) (repL_pub hE hb ho hc)
  | _, _, .ifc h => .ifc (rep_pub hE hb ho h)
theorem repL_pub (hE : Ev w S w S') (hb : S' b) (ho : RepObj w S b (.arr sz xs)) : ∀ {ds : List D} {vs : List Value}, RepL w S ds vs → RepL w S' (pubs b sz xs ds) vs
  | _, _, .nil => .nil
  | _, _, .cons h t => .cons (rep_pub hE hb ho h) (repL_pub hE hb ho t)
end

def AObj.pub (b sz : Nat) (xs : List D) : AObj → AObj
  | .arr s ys => .arr s (ys.map (D.pub b sz xs))
  | .mp es => .mp (es.map fun e => (e.1, e.2.pub b sz xs))
  | .sit s p => .sit s p

def spub (b sz : Nat) (xs : List D) : Store → Store
  | [] => []
  | (c, o) :: r => if b = c then spub b sz xs r else (c, o.pub b sz xs) :: spub b sz xs r

theorem sget_spub (b sz : Nat) (xs : List D) (k : Nat) (σ : Store) : sget k (spub b sz xs σ) = if k = b then none else (sget k σ).map (AObj.pub b sz xs) := by
  induction σ with
  | nil => simp [spub]
  | cons p r ih =>
    obtain ⟨c, o⟩ := p
    by_cases hbc : b = c
    · subst hbc
      by_cases hk : k = b
      · subst hk; simp [spub, ih]
      · simp [spub, sget, hk, ih]
    · by_cases hkc : k = c
      · subst hkc
        have : ¬ k = b := fun h => hbc h.symm
        simp [spub, sget, hbc, this]
      · simp only [spub, hbc, if_false, sget, hkc, ih]

theorem obj_pub (hE : Ev w S w S') (hb : S' b) (ho : RepObj w S b (.arr sz xs)) {k : Nat} {o : AObj} (h : RepObj w S k o) : RepObj w S' k (o.pub b sz xs) := by
  cases o with
  | arr s ys =>
    obtain ⟨c, e, lo, hi, vals, hh, hr, hc, hs, hfz⟩ := h
    refine ⟨c, e, lo, hi, vals, hh, ?_, hc, ?_, hfz⟩
    · rw [flat_pubs, ← pubs_map]; exact repL_pub hE hb ho hr
    · intro y hy
      obtain ⟨z, hz, rfl⟩ := List.mem_map.1 hy
      rw [pub_cells]; simpa using hs z hz
  | mp es =>
    obtain ⟨entries, clock, hh, hr, hk, h1, h2⟩ := h
    refine ⟨entries, clock, hh, ?_, by rw [← hk]; simp, h1, h2⟩
    have := repL_pub hE hb ho hr
    rw [pubs_map] at this
    simpa [AObj.pub, Function.comp_def] using this
  | sit s p => exact h

end

section
variable {P : Program} {N : Slots} {C : Ctx P N} {todo : List Item} {env : Env} {σ : Store}

def epub (b sz : Nat) (xs : List D) (env : Env) : Env := env.map fun p => (p.1, p.2.pub b sz xs)

theorem eget_epub (b sz : Nat) (xs : List D) (k : Nat) : ∀ env : Env, eget k (epub b sz xs env) = (eget k env).pub b sz xs
  | [] => by simp [epub, eget, D.pub]
  | (j, d) :: env => by
    show (if k = j then d.pub b sz xs else eget k (epub b sz xs env)) = _
    by_cases hk : k = j
    · simp [eget, hk]
    · rw [if_neg hk, eget_epub b sz xs k env]; simp [eget, hk]

/-- The world as it is, one row handed out. -/
theorem pub_world {w : World} {S : Nat → Prop} {b sz : Nat} {xs : List D} (hst : RepStore w S σ) (hl : ∀ b, S b → b < w.heap.size) (hb : sget b σ = some (.arr sz xs)) :
    Ev w S w (fun k => S k ∨ k = b) ∧ RepStore w (fun k => S k ∨ k = b) (spub b sz xs σ) ∧ Fr w S (sdom σ) w (fun k => S k ∨ k = b) (spub b sz xs σ) := by
  have ho := (hst b _ hb).2
  have hE : Ev w S w (fun k => S k ∨ k = b) := ⟨fun _ h => .inl h, fun _ _ => rfl, Shape.refl w⟩
  have hdom : ∀ k, sdom (spub b sz xs σ) k → sdom σ k := by
    intro k hk
    unfold sdom at *
    rw [sget_spub] at hk
    split at hk
    · exact absurd rfl hk
    · intro hn; rw [hn] at hk; exact hk rfl
  refine ⟨hE, ?_, ⟨rfl, rfl, rfl, Nat.le_refl _, Shape.refl w, fun _ _ _ => rfl, fun _ h => .inl h, ?_, fun k hk => .inl (hdom k hk), ?_⟩⟩
  · intro k o hk
    rw [sget_spub] at hk
    split at hk
    · cases hk
    · rename_i hkb
      obtain ⟨o', ho', rfl⟩ := Option.map_eq_some_iff.1 hk
      obtain ⟨h1, h2⟩ := hst k o' ho'
      exact ⟨fun h => h.elim h1 hkb, obj_pub hE (.inr rfl) ho h2⟩
  · intro k hk
    rcases hk with hk | rfl
    · exact .inl hk
    · exact .inr (.inl (by unfold sdom; rw [hb]; simp))
  · intro k hk
    rcases hk with hk | rfl
    · exact hl k hk
    · exact ho.lt

theorem Goes.publish (b : Nat) {sz : Nat} {xs : List D} (hb : sget b σ = some (.arr sz xs)) (h : Goes C todo (epub b sz xs env) (spub b sz xs σ)) : Goes C todo env σ := by
  intro a w S hd hs
  obtain ⟨hE, hst, hfr⟩ := pub_world hs.store hs.fr.lt hb
  exact h a w _ hd ⟨fun k => by rw [eget_epub]; exact rep_pub hE (.inr rfl) (hs.store b _ hb).2 (hs.env k), hst, hs.fr.trans hfr, hs.size⟩

/-- A contract whose call hands back a row of its own is one whose call hands back what is only read. -/
theorem ACalls.publish {f : FuncId} {args : List D} {R : AEnd → Store → Prop} (h : ACalls P f args σ R) {R' : AEnd → Store → Prop}
    (hr : ∀ e σ', R e σ' → R' e σ' ∨ ∃ d b sz xs, e = .ret d ∧ sget b σ' = some (.arr sz xs) ∧ R' (.ret (d.pub b sz xs)) (spub b sz xs σ')) : ACalls P f args σ R' := by
  intro w S vs hS hst hv
  refine (h w S vs hS hst hv).mono ?_
  rintro e w' ⟨ae, σ', S', hR, hend, hst', hfr⟩
  rcases hr ae σ' hR with hR' | ⟨d, b, sz, xs, rfl, hb, hR'⟩
  · exact ⟨ae, σ', S', hR', hend, hst', hfr⟩
  · obtain ⟨hE, hst2, hfr2⟩ := pub_world hst' hfr.lt hb
    refine ⟨_, _, _, hR', ?_, hst2, hfr.trans hfr2⟩
    cases e with
    | returned v => exact rep_pub hE (.inr rfl) (hst' b _ hb).2 hend
    | panicked chain => exact hend.elim
    | outgrown => exact hend.elim

/-- A contract whose store behind the call is told in part. -/
theorem ACalls.forget {f : FuncId} {args : List D} {R R' : AEnd → Store → Prop} (h : ACalls P f args σ R) (hr : ∀ e σ', R e σ' → ∃ σ'', SLe σ'' σ' ∧ R' e σ'') : ACalls P f args σ R' := by
  intro w S vs hS hst hv
  refine (h w S vs hS hst hv).mono ?_
  rintro e w' ⟨ae, σ', S', hR, hend, hst', hfr⟩
  obtain ⟨σ'', hl, hR'⟩ := hr ae σ' hR
  exact ⟨ae, σ'', S', hR', hend, hst'.le hl, hfr.le hl⟩

end
end Go.Ab
