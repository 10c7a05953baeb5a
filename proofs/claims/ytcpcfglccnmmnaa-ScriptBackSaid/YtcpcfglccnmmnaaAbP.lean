/- The rule for a region, and for a function's body. -/
import Derived.Test.YtcpcfglccnmmnaaAbO
set_option linter.unusedSimpArgs false
set_option linter.unusedVariables false
set_option linter.constructorNameAsVariable false
namespace Go.Ab
open Go

section steps
variable {P : Program} {N : Slots} {C : Ctx P N} {env : Env} {σ : Store} {a : Act} {w : World} {S : Nat → Prop} {o : Oper}
variable {Qp : D → Store → Prop} {next K : Env → Store → Prop} {nx : Act → World → Prop}

theorem s_delete (h : Sim C env σ w S a.tmps) (hd0 : a.defers = C.ds) (hN : dstOk N o.dst) (hnx : ∀ a w, NX C next a w → nx a w) {Q : Exit → Act → World → Prop} {T ty : TypeId} {ts : Array TypeId} {m k : D} {mv kv0 : Value} (hm : Rep w S m mv) (hk0 : Rep w S k kv0)
    (ho : (execOp a.eval o).run P w = ((Builtin.delete_ ts ty #[mv, kv0]).run P w).andThen fun v w => .ok (.value v) w) (ht0 : ts[0]? = some T)
    (hv : vcRes P Qp next o.dst env σ (aDelete P σ T m k)) : o.wp P a w nx Q := by
  unfold aDelete at hv
  split at hv
  · rename_i d e kv b hT hkv
    obtain ⟨kt, hT1, hT2⟩ := rmap_eq hT
    have hk := toV_rep hkv hk0
    have hmv := map_inv hm
    split at hv
    · rename_i es hs
      obtain ⟨⟨h1, h2⟩, hk'⟩ := hv
      obtain ⟨hSb, hobj⟩ := h.store b _ hs
      obtain ⟨entries, clock, hh, hr, hke, hborn, hnd⟩ := hobj
      have hlt := (Array.getElem?_eq_some_iff.1 hh).1
      have hget : (getObj b).run P w = .ok (.map entries clock) w := by simp [getObj, Sem.run, hh]
      have main : ∃ ob, (Builtin.delete_ ts ty #[mv, kv0]).run P w = .ok (.tuple #[]) { w with heap := w.heap.setIfInBounds b ob } ∧
          (∀ w' S', Ev w S w' S' → w'.heap[b]? = some ob → RepObj w' S' b (.mp (mdel kv es))) := by
        have hset : ∀ ob, (setObj b ob).run P w = .ok () { w with heap := w.heap.setIfInBounds b ob } := fun ob => by simp [setObj, Sem.run, hh]
        rcases findNow_ok entries.toList es 0 hke hr h2 with ⟨f1, f2, f3, f4⟩ | ⟨j, f, p, f1, f2, f3, f4', f5, f6, f7, f8, f9⟩
        · refine ⟨.map entries clock, ?_, ?_⟩
          · unfold Builtin.delete_
            simp only [ht0, hmv, hk, List.getElem?_toArray, List.getElem?_cons_zero, List.getElem?_cons_succ]
            simp [run_underlying hT1, hget, checkKey_ok _ hT2 h1, findKey_ok hT2 f1, hset]
          · intro w' S' hE hb'
            exact ⟨_, _, hb', by rw [f4]; exact hr.ev hE, by rw [f4]; exact hke, hborn, hnd⟩
        · refine ⟨.map (entries.eraseIdxIfInBounds (0 + j)) clock, ?_, ?_⟩
          · unfold Builtin.delete_
            simp only [ht0, hmv, hk, List.getElem?_toArray, List.getElem?_cons_zero, List.getElem?_cons_succ]
            simp [run_underlying hT1, hget, checkKey_ok _ hT2 h1, findKey_ok hT2 f1, hset]
          · intro w' S' hE hb'
            have hl : (entries.eraseIdxIfInBounds (0 + j)).toList = entries.toList.eraseIdx j := by
              rw [Nat.zero_add]
              unfold Array.eraseIdxIfInBounds
              split
              · simp
              · rename_i hge
                rw [List.eraseIdx_of_length_le (by simpa using hge)]
            have hsub : (entries.toList.eraseIdx j).Sublist entries.toList := List.eraseIdx_sublist ..
            have hr' := hr.ev hE
            refine ⟨_, _, hb', ?_, ?_, ?_, ?_⟩
            · rw [f9, hl, List.eraseIdx_eq_take_drop_succ, List.eraseIdx_eq_take_drop_succ]
              simp only [List.map_append, List.map_take, List.map_drop]
              exact (hr'.take _).append (hr'.drop _)
            · rw [f9, hl, List.eraseIdx_eq_take_drop_succ, List.eraseIdx_eq_take_drop_succ]
              simp only [List.map_append, List.map_take, List.map_drop, hke]
            · intro x hx
              rw [hl] at hx
              exact hborn x (hsub.subset hx)
            · rw [hl]
              exact (hsub.map _).nodup hnd
      obtain ⟨ob, hrun, hrep⟩ := main
      obtain ⟨hfr, hother, hself⟩ := fr_map (σ := σ) (y := .mp (mdel kv es)) (ob := ob) h.fr.lt hs ⟨entries, clock, .inl hh⟩ rfl
      have hE := sim_ev h hfr
      exact step_ok h hd0 hN hnx (v := .tuple #[]) (by rw [ho, hrun]; rfl) (.tup .nil) (store_row h.store hE hother hSb (hrep _ _ hE (hself hlt))) hfr hk'
    · exact hv.elim
  · exact hv.elim

theorem s_panic (h : Sim C env σ w S a.tmps) (hd0 : a.defers = C.ds) {d : D} {v : Value} (hv : Rep w S d v) (hrun : (execOp a.eval o).run P w = .halt (.panic v) w) (hq : Qp d σ) : o.wp P a w nx (QX C K Qp) := by
  unfold Oper.wp
  rw [hrun, Oper.upon_panic]
  exact ⟨hd0, h.size, d, σ, S, v, rfl, hq, hv, h.store, h.fr⟩

theorem s_enter (h : Sim C env σ w S a.tmps) (hd0 : a.defers = C.ds) (hN : dstOk N o.dst) (hnx : ∀ a w, NX C next a w → nx a w) {g : FuncId} {args : List D} {vs : List Value} (hr : RepL w S args vs)
    (hrun : (execOp a.eval o).run P w = .ok (.enter g vs.toArray) w) (hc : ACalls P g args σ fun e σ' => match e with | .ret d => next (eputo o.dst d env) σ' | .panic d => Qp d σ') : o.wp P a w nx (QX C K Qp) := by
  unfold Oper.wp
  rw [hrun, Oper.upon_enter]
  refine (hc w S vs h.fr.lt h.store hr).mono ?_
  rintro e w' ⟨ae, σ', S', hq, hend, hst, hfr⟩
  cases ae with
  | ret d =>
    cases e with
    | returned v => exact hnx _ _ ⟨by rw [put_defers]; exact hd0, _, _, _, hq, sim_put h hN hend hst hfr⟩
    | panicked chain => exact hend.elim
    | outgrown => exact hend.elim
  | panic d =>
    cases e with
    | returned v => exact hend.elim
    | panicked chain =>
      obtain ⟨v, rfl, hrep⟩ := hend
      exact ⟨hd0, h.size, d, σ', S', v, rfl, hq, hrep, hst, h.fr.trans hfr⟩
    | outgrown => exact hend.elim

theorem two_args {xs : Array Operand} {dx dy : D} (h : xs.toList.map (ev env) = [dx, dy]) : ∃ x y, xs = #[x, y] ∧ ev env x = dx ∧ ev env y = dy := by
  obtain ⟨l⟩ := xs
  simp only [] at h
  match l, h with
  | [x, y], h => simp at h; exact ⟨x, y, rfl, h.1, h.2⟩

theorem one_arg {xs : Array Operand} {dx : D} (h : xs.toList.map (ev env) = [dx]) : ∃ x, xs = #[x] ∧ ev env x = dx := by
  obtain ⟨l⟩ := xs
  simp only [] at h
  match l, h with
  | [x], h => simp at h; exact ⟨x, rfl, h⟩

theorem op_sound (h : Sim C env σ w S a.tmps) (hd0 : a.defers = C.ds) (hN : dstOk N o.dst) (hnx : ∀ a w, NX C next a w → nx a w) (hv : vcRes P Qp next o.dst env σ (aop P env σ o.op)) : o.wp P a w nx (QX C K Qp) := by
  cases hop : o.op <;> rw [hop] at hv
  case move x => exact s_move h hd0 hN hnx (.inl hop) hv
  case assign x => exact s_move h hd0 hN hnx (.inr hop) hv
  case pick c x y => exact s_pick h hd0 hN hnx hop hv
  case alloc T => exact s_alloc h hd0 hN hnx hop hv
  case box T x => exact s_box h hd0 hN hnx hop hv
  case build T ps => exact s_build h hd0 hN hnx hop hv
  case buildSlice T len ps => exact s_buildSlice h hd0 hN hnx hop hv
  case load T x => exact s_load h hd0 hN hnx hop hv
  case store T x y => exact s_store h hd0 hN hnx hop hv
  case nilCheck x => exact s_nilCheck h hd0 hN hnx hop hv
  case binOp op T x y T2 => exact s_binOp h hd0 hN hnx hop hv
  case unOp op T x => exact s_unOp h hd0 hN hnx hop hv
  case convert src dst x => exact s_convert h hd0 hN hnx hop hv
  case makeInterface T x => exact s_makeInterface h hd0 hN hnx hop hv
  case makeFunc fn f c => exact s_makeFunc h hd0 hN hnx hop hv
  case makeMap T r =>
    cases r with
    | none => exact s_makeMap h hd0 hN hnx hop hv
    | some r => exact hv.elim
  case makeSlice T x y => exact s_makeSlice h hd0 hN hnx hop hv
  case slice T x lo hi mx => exact s_slice h hd0 hN hnx hop hv
  case fieldAddr T x f => exact s_fieldAddr h hd0 hN hnx hop hv
  case field T x f => exact s_field h hd0 hN hnx hop hv
  case indexAddr T x y => exact s_indexAddr h hd0 hN hnx hop hv
  case index T x y => exact s_index h hd0 hN hnx hop hv
  case lookup T x y ok => exact s_lookup h hd0 hN hnx hop hv
  case mapUpdate T m k x => exact s_mapUpdate h hd0 hN hnx (.inl hop) hv
  case insert T m k x => exact s_mapUpdate h hd0 hN hnx (.inr hop) hv
  case range T x => exact s_range h hd0 hN hnx hop hv
  case next x b => exact s_next h hd0 hN hnx hop hv
  case typeAssert x T' T ok => exact s_typeAssert h hd0 hN hnx hop hv
  case extract x i => exact s_extract h hd0 hN hnx hop hv
  case panic x =>
    simp only [aop] at hv
    split at hv
    · rename_i t d hd
      have hx := ev_rep h x
      rw [hd] at hx
      refine s_panic (K := K) h hd0 hx ?_ hv
      generalize hxe : a.eval x = xv at hx
      cases hx with
      | ifc hx => simp [execOp, hop, hxe, Instr.panic]
    · exact hv.elim
  case call c =>
    simp only [aop] at hv
    split at hv
    · rename_i b hb
      have hargs := ev_reps h c.args.toList
      have hrun : ∀ {s : Sem Value} {vs : Array Value}, c.args.map a.eval = vs → (∀ cs, builtin b c.argTypes o.type cs vs = (do pure (.value (← s)))) → (execOp a.eval o).run P w = (s.run P w).andThen fun v w => .ok (.value v) w := by
        intro s vs hvs hbs
        simp only [execOp, hop, resolve, hb, hvs, Sem.run_bind, Sem.run_pure, Result.andThen_ok, invoke, hbs]
      unfold aBuiltin at hv
      split at hv
      · rename_i x hxs
        obtain ⟨xo, hxa, hxe⟩ := one_arg hxs
        split at hv
        · rename_i T hT
          refine s_len (Qp := Qp) h hd0 hN hnx (ev_rep h xo) (hrun (by rw [hxa]; simp) (fun _ => rfl)) hT ?_
          rw [hxe]; exact hv
        · exact hv.elim
      · rename_i s x hxs
        obtain ⟨so, xo, hxa, hse, hxe⟩ := two_args hxs
        split at hv
        · rename_i T T2 hT hT2
          refine s_append (Qp := Qp) h hd0 hN hnx (ev_rep h so) (ev_rep h xo) (hrun (by rw [hxa]; simp) (fun _ => rfl)) hT hT2 ?_
          rw [hxe, hse]; exact hv
        · exact hv.elim
      · rename_i m k hxs
        obtain ⟨so, xo, hxa, hse, hxe⟩ := two_args hxs
        split at hv
        · rename_i T hT
          refine s_delete (Qp := Qp) h hd0 hN hnx (ev_rep h so) (ev_rep h xo) (hrun (by rw [hxa]; simp) (fun _ => rfl)) hT ?_
          rw [hxe, hse]; exact hv
        · exact hv.elim
      · rename_i x y hxs
        obtain ⟨so, xo, hxa, hse, hxe⟩ := two_args hxs
        split at hv
        · rename_i u v hu hv'
          obtain ⟨d, z, hr, hrep, hk⟩ := scal_ok hv w S
          refine step_val h hd0 hN hnx (v := z) ?_ hrep hk
          rw [hrun (s := Builtin.max_ #[] 0 #[u, v]) (vs := #[u, v]) (by rw [hxa]; simp [toV_rep hu (hse ▸ ev_rep h so), toV_rep hv' (hxe ▸ ev_rep h xo)]) (fun _ => rfl), hr]
          rfl
        · exact hv.elim
      · rename_i x y hxs
        obtain ⟨so, xo, hxa, hse, hxe⟩ := two_args hxs
        split at hv
        · rename_i u v hu hv'
          obtain ⟨d, z, hr, hrep, hk⟩ := scal_ok hv w S
          refine step_val h hd0 hN hnx (v := z) ?_ hrep hk
          rw [hrun (s := Builtin.min_ #[] 0 #[u, v]) (vs := #[u, v]) (by rw [hxa]; simp [toV_rep hu (hse ▸ ev_rep h so), toV_rep hv' (hxe ▸ ev_rep h xo)]) (fun _ => rfl), hr]
          rfl
        · exact hv.elim
      · rename_i t x hxs
        obtain ⟨xo, hxa, hxe⟩ := one_arg hxs
        have hx := ev_rep h xo
        rw [hxe] at hx
        refine s_panic (K := K) h hd0 hx ?_ hv
        generalize hxv : a.eval xo = xv at hx
        cases hx with
        | ifc hx =>
          rename_i xv'
          rw [hrun (s := Instr.panic (.iface t xv')) (vs := #[.iface t xv']) (by rw [hxa]; simp [hxv]) (fun _ => rfl)]
          simp [Instr.panic]
      · exact hv.elim
    · rename_i f hf
      split at hv
      · rename_i g first caps hd
        obtain ⟨g', hg', hc⟩ := hv
        have hfr := ev_rep h f
        rw [hd] at hfr
        generalize hfe : a.eval f = fv at hfr
        cases hfr with
        | clo hf1 hc1 =>
          rename_i fv cv
          refine s_enter (K := K) h hd0 hN hnx ((hf1.append (ev_reps h c.args.toList)).append hc1) ?_ hc
          simp only [execOp, hop, resolve, hf, hfe, Deferred.ofValue, Sem.run_bind, Sem.run_pure, Result.andThen_ok, invoke]
          rw [hg']
          congr 2
          apply Array.ext'
          simp
      · exact hv.elim
    · exact hv.elim
  all_goals exact hv.elim

end steps

def dsts (ops : Array Oper) : List (Option Nat) := ops.toList.map (·.dst)

def gd (env : Env) (ds : List (Option Nat)) (j : Nat) : D :=
  match ds[j]? with
  | some (some d) => eget d env
  | _ => .any

def gset (env : Env) (ds : List (Option Nat)) (j : Nat) (b : Bool) : Env :=
  match ds[j]? with
  | some (some d) => eput d (.v (.bool b)) env
  | _ => env

def lkFree : List (Nat × Value) → Nat → Prop
  | [], _ => True
  | p :: r, k => p.1 ≠ k ∧ lkFree r k

theorem lkFree_ok : ∀ {l : List (Nat × Value)} {k : Nat}, lkFree l k → ∀ p ∈ l, p.1 ≠ k
  | [], _, _, p, hp => by simp at hp
  | q :: r, k, h, p, hp => by
    rcases List.mem_cons.1 hp with rfl | hp
    · exact h.1
    · exact lkFree_ok h.2 p hp

def dstB (N : Slots) (dst : Option Nat) : Prop := match dst with | some k => k < N.n ∧ lkFree N.lk k | none => True

/-- What is to be shown of a region. -/
def vcL (P : Program) (N : Slots) (ds : List (Option Nat)) (K : Env → Store → Prop) (Qp : D → Store → Prop) : List Oper → Env → Store → Prop
  | [], env, σ => K env σ
  | o :: rest, env, σ =>
    dstB N o.dst ∧
    match o.guard with
    | none => vcRes P Qp (vcL P N ds K Qp rest) o.dst env σ (aop P env σ o.op)
    | some (j, want) =>
      match gd env ds j with
      | .v (.bool t) =>
        (t = want → vcRes P Qp (vcL P N ds K Qp rest) o.dst (gset env ds j want) σ (aop P (gset env ds j want) σ o.op)) ∧
        (t = !want → vcL P N ds K Qp rest (eputo o.dst (.tup []) (gset env ds j (!want))) σ)
      | .tup [] => vcL P N ds K Qp rest (eputo o.dst (.tup []) env) σ
      | _ => False

section region
variable {P : Program} {N : Slots} {C : Ctx P N} {K : Env → Store → Prop} {Qp : D → Store → Prop}

theorem dstB_ok {N : Slots} {dst : Option Nat} (h : dstB N dst) : dstOk N dst := fun k hk => by subst hk; exact ⟨h.1, lkFree_ok h.2⟩

theorem RepEnv.gset {w : World} {S : Nat → Prop} {env : Env} {tmps : Array Value} {ds : List (Option Nat)} {j : Nat} {t : Bool} (h : RepEnv w S env tmps) (hg : gd env ds j = .v (.bool t)) : RepEnv w S (gset env ds j t) tmps := by
  unfold gd at hg
  unfold Ab.gset
  split at hg
  · rename_i d hd
    intro k
    show Rep w S (eget k (eput d (.v (.bool t)) env)) _
    rw [eget_eput]
    by_cases hk : k = d
    · subst hk; rw [if_pos rfl, ← hg]; exact h k
    · rw [if_neg hk]; exact h k
  · cases hg

theorem yielded_eq {w : World} {S : Nat → Prop} {env : Env} {ops : Array Oper} {j : Nat} {t : Bool} {tmps : Array Value} (h : RepEnv w S env tmps) (hg : gd env (dsts ops) j = .v (.bool t)) : yielded ops tmps j = some t := by
  unfold gd at hg
  split at hg
  · rename_i d hd
    have hd' : (ops[j]?).bind (·.dst) = some d := by
      unfold dsts at hd
      simp only [List.getElem?_map, Array.getElem?_toList, Option.map_eq_some_iff] at hd
      obtain ⟨o, ho, hod⟩ := hd
      rw [ho]; exact hod
    have hr := h d
    rw [hg] at hr
    have hlt : d < tmps.size := by
      rcases Nat.lt_or_ge d tmps.size with h1 | h1
      · exact h1
      · have := hr.v_inv
        rw [Array.getD_eq_getD_getElem?, Array.getElem?_eq_none h1] at this
        exact absurd this (by simp [undef])
    unfold yielded
    rw [hd']
    have he : tmps[d]? = some (.bool t) := by
      have := hr.v_inv
      rw [Array.getD_eq_getD_getElem?] at this
      rw [Array.getElem?_eq_getElem hlt] at this ⊢
      simpa using this
    simp [he]
  · cases hg

/-- Of what was passed over nothing is known, so what hangs on it is passed over too. -/
theorem yielded_none {w : World} {S : Nat → Prop} {env : Env} {ops : Array Oper} {j : Nat} {tmps : Array Value} (h : RepEnv w S env tmps) (hg : gd env (dsts ops) j = .tup []) : yielded ops tmps j = none := by
  unfold gd at hg
  split at hg
  · rename_i d hd
    have hd' : (ops[j]?).bind (·.dst) = some d := by
      unfold dsts at hd
      simp only [List.getElem?_map, Array.getElem?_toList, Option.map_eq_some_iff] at hd
      obtain ⟨o, ho, hod⟩ := hd
      rw [ho]; exact hod
    have hr := h d
    rw [hg] at hr
    unfold yielded
    rw [hd']
    have hv : tmps.getD d undef = .tuple #[] := by
      generalize tmps.getD d undef = v at hr
      cases hr with
      | tup hr => rw [hr.nil_inv]
    rw [Array.getD_eq_getD_getElem?] at hv
    show (match tmps[d]? with | some (.bool b) => some b | _ => none) = none
    cases ht : tmps[d]? with
    | none => rfl
    | some x => rw [ht] at hv; simp at hv; subst hv; rfl
  · cases hg

theorem vcL_sound {ops : Array Oper} : ∀ (l : List Oper) (env : Env) (σ : Store) (a : Act) (w : World) (S : Nat → Prop), vcL P N (dsts ops) K Qp l env σ → a.defers = C.ds → Sim C env σ w S a.tmps → wpList P ops (QX C K Qp) l a w
  | [], env, σ, a, w, S, h, hd, hs => ⟨hd, env, σ, S, h, hs⟩
  | o :: rest, env, σ, a, w, S, h, hd, hs => by
    obtain ⟨hN, h⟩ := h
    have hN' := dstB_ok hN
    simp only [wpList]
    have hnx : ∀ a w, NX C (vcL P N (dsts ops) K Qp rest) a w → wpList P ops (QX C K Qp) rest a w := fun a w ⟨hd, env', σ', S', hn, hs'⟩ => vcL_sound rest env' σ' a w S' hn hd hs'
    cases hg : o.guard with
    | none =>
      rw [hg] at h
      have hw : Region.wanted o (yielded ops a.tmps) = true := by simp [Region.wanted, hg]
      rw [if_pos hw]
      exact .inl (op_sound hs hd hN' hnx h)
    | some p =>
      obtain ⟨j, want⟩ := p
      rw [hg] at h
      dsimp only at h
      split at h
      · rename_i t ht
        obtain ⟨h1, h2⟩ := h
        have hy := yielded_eq hs.env ht
        have hw : Region.wanted o (yielded ops a.tmps) = (t == want) := by simp [Region.wanted, hg, hy]
        have hs' : ∀ b, t = b → Sim C (gset env (dsts ops) j b) σ w S a.tmps := fun b hb => by subst hb; exact ⟨hs.env.gset ht, hs.store, hs.fr, hs.size⟩
        by_cases htw : t = want
        · rw [if_pos (by rw [hw, htw]; simp)]
          exact .inl (op_sound (hs' _ htw) hd hN' hnx (h1 htw))
        · have htw' : t = !want := by cases t <;> cases want <;> simp_all
          rw [if_neg (by rw [hw]; simpa using htw)]
          refine vcL_sound rest _ σ _ w S (h2 htw') (by rw [put_defers]; exact hd) (sim_put (hs' _ htw') hN' (.tup .nil) hs.store (Fr.refl σ hs.fr.lt))
      · rename_i ht
        have hy := yielded_none hs.env ht
        have hw : Region.wanted o (yielded ops a.tmps) = false := by simp [Region.wanted, hg, hy]
        rw [if_neg (by rw [hw]; simp)]
        exact vcL_sound rest _ σ _ w S h (by rw [put_defers]; exact hd) (sim_put hs hN' (.tup .nil) hs.store (Fr.refl σ hs.fr.lt))
      · exact h.elim

def rebase (keep : List Nat) (env : Env) : Env := keep.map fun k => (k, eget k env)

theorem eget_rebase (keep : List Nat) (env : Env) (k : Nat) : eget k (rebase keep env) = if k ∈ keep then eget k env else .any := by
  induction keep with
  | nil => rfl
  | cons j r ih =>
    show (if k = j then eget j env else eget k (rebase r env)) = _
    by_cases hk : k = j
    · subst hk; simp
    · rw [if_neg hk, ih]; simp [hk]

theorem ele_rebase (keep : List Nat) (env : Env) : ELe (rebase keep env) env := fun k => by
  rw [eget_rebase]
  by_cases hk : k ∈ keep
  · rw [if_pos hk]; exact .inr rfl
  · rw [if_neg hk]; exact .inl rfl

theorem Goes.rebase {todo : List Item} {env : Env} {σ : Store} (keep : List Nat) (h : Goes C todo (rebase keep env) σ) : Goes C todo env σ := h.le (ele_rebase keep env) (SLe.refl σ)

theorem region_arrives {k : List Item} {m : Machine} (h : ∃ e a' w', QX C (Goes C k) (Pan C) e a' w' ∧ Arrives P m C.b k C.cs e a' w') : C.Z m := by
  obtain ⟨e, a', w', hq, harr⟩ := h
  cases e with
  | normal =>
    obtain ⟨hd, env', σ', S', hk, hs⟩ := hq
    exact C.hZ _ _ harr (hk a' w' S' hd hs)
  | panic chain =>
    obtain ⟨hd, hsz, d, σ', S', v, rfl, hp, hrep, hst, hfr⟩ := hq
    obtain ⟨todo, hsteps⟩ := harr
    exact C.hZ _ _ hsteps (hp a' todo w' S' v hd hrep hst hfr hsz)
  | exit id => exact hq.elim
  | goto l => exact hq.elim
  | ret => exact hq.elim
  | outgrown => exact hq.elim

/-- A region whose order is the text's. -/
theorem Goes.region {id : Nat} {ops : Array Oper} {k : List Item} {env : Env} {σ : Store} (keep : List Nat)
    (h : ∀ K : Env → Store → Prop, (∀ env σ, Goes C k env σ → K env σ) → vcL P N (dsts ops) K (Pan C) ops.toList (Ab.rebase keep env) σ) : Goes C (.code (.region id ops false) :: k) env σ := by
  intro a w S hd hs
  have hv := h (Goes C k) (fun _ _ h => h)
  have hs' : Sim C (Ab.rebase keep env) σ w S a.tmps := ⟨hs.env.le (ele_rebase keep env), hs.store, hs.fr, hs.size⟩
  have hl := vcL_sound ops.toList _ σ a w S hv hd hs'
  have heq := wpOps_eq_wpList (P := P) (ops := ops) (Q := QX C (Goes C k) (Pan C)) ops.toList 0 (fun j => by simp)
  have : wpOps P ops (QX C (Goes C k) (Pan C)) (List.range ops.size) a w := by
    rw [List.range_eq_range', show ops.size = ops.toList.length by simp, heq]; exact hl
  have hwp := wp_region (id := id) this
  exact region_arrives (hwp C.b k C.cs)

end region

/-- What a call must come to. -/
def EndOk (P : Program) (f : FuncId) (w0 : World) (S0 : Nat → Prop) (σ0 : Store) (R : AEnd → Store → Prop) (cs : List Frame) (m : Machine) : Prop :=
  ∃ e w' fr, (∃ ae σ' S', R ae σ' ∧ RepEnd w' S' ae e ∧ RepStore w' S' σ' ∧ Fr w0 S0 (sdom σ0) w' S' σ') ∧ Comes P m (lone fr cs w') e ∧ fr.fn = f ∧ fr.leaving P w' e

def Ctx.call (P : Program) (N : Slots) (f : FuncId) (w0 : World) (S0 : Nat → Prop) (σ0 : Store) (hS : ∀ b, S0 b → b < w0.heap.size) (hst : RepStore w0 S0 σ0) (R : AEnd → Store → Prop) (cs : List Frame) : Ctx P N where
  b := { (default : Frame) with fn := f, kind := .normal }
  cs := cs
  ds := []
  w0 := w0
  S0 := S0
  F := sdom σ0
  Z := EndOk P f w0 S0 σ0 R cs
  hZ := fun m m' hs ⟨e, w', fr, h1, h2, h3⟩ => ⟨e, w', fr, h1, Comes.of_steps hs h2, h3⟩
  hS := fun b hb => ⟨hS b hb, fun hd => by
    cases hs : sget b σ0 with
    | none => exact hd hs
    | some o => exact (hst b o hs).1 hb⟩

/-- A walk of function f, whose end must be as R says. -/
structure IsCall {P : Program} {N : Slots} (C : Ctx P N) (f : FuncId) (R : AEnd → Store → Prop) : Prop where
  ex : ∃ w0 S0 σ0 hS hst cs, C = Ctx.call P N f w0 S0 σ0 hS hst R cs

def initEnv (args : List D) : Env := args.zipIdx.map fun p => (p.2, p.1)

theorem eget_initEnv (args : List D) (k : Nat) : eget k (initEnv args) = args.getD k .any := by
  have : ∀ (l : List D) (j k : Nat), eget k ((l.zipIdx j).map fun p => (p.2, p.1)) = if j ≤ k then l.getD (k - j) .any else .any := by
    intro l
    induction l with
    | nil => intro j k; simp [eget]
    | cons x l ih =>
      intro j k
      simp only [List.zipIdx_cons, List.map_cons, eget]
      by_cases hk : k = j
      · subst hk; simp
      · rw [if_neg hk, ih]
        by_cases hjk : j ≤ k
        · rw [if_pos (by omega), if_pos hjk, show k - j = (k - (j + 1)) + 1 by omega, List.getD_cons_succ]
        · rw [if_neg (by omega), if_neg hjk]
  have h := this args 0 k
  simpa [initEnv] using h

theorem ACalls.of_body {P : Program} {f : FuncId} {fn : Func} {c : Code} {N : Nat} {args : List D} {σ : Store} {R : AEnd → Store → Prop} (hf : P.funcs[f]? = some fn) (hb : fn.body = some c) (hN : fn.ntmps = N) (hargs : args.length ≤ N)
    (h : ∀ C : Ctx P ⟨N, []⟩, IsCall C f R → Goes C [.code c] (initEnv args) σ) : ACalls P f args σ R := by
  intro w S vs hS hst hr cs
  have hC := h (Ctx.call P ⟨N, []⟩ f w S σ hS hst R cs) ⟨_, _, _, _, _, _, rfl⟩
  have hlen := hr.length
  have hsim : Sim (Ctx.call P ⟨N, []⟩ f w S σ hS hst R cs) (initEnv args) σ w S (vs.toArray ++ Array.replicate (fn.ntmps - vs.toArray.size) undef) := by
    refine ⟨fun k => ?_, hst, Fr.refl σ hS, by simp; omega, fun p hp => by simp at hp⟩
    rw [eget_initEnv]
    by_cases hk : k < args.length
    · rw [getD_lt _ _ _ hk]
      obtain ⟨v, hv, hrep⟩ := hr.get k args[k] (by simp)
      have hkv : k < vs.length := by omega
      rw [Array.getD_eq_getD_getElem?, Array.getElem?_append_left (by simpa using hkv)]
      simp only [List.getElem?_toArray, hv, Option.getD_some]
      exact hrep
    · rw [List.getD_eq_getElem?_getD, List.getElem?_eq_none (by omega)]
      exact .any
  have hz := hC { tmps := vs.toArray ++ Array.replicate (fn.ntmps - vs.toArray.size) undef, defers := [] } w S rfl hsim
  have henter : Frame.enter P f vs.toArray .normal = ({ (default : Frame) with fn := f, kind := .normal } : Frame).at { tmps := vs.toArray ++ Array.replicate (fn.ntmps - vs.toArray.size) undef, defers := [] } [.code c] := by
    simp [Frame.enter, Frame.at, hf, hb]
  rw [henter]
  obtain ⟨e, w', fr, ⟨ae, σ', S', h1, h2, h3, h4⟩, hcomes, hfn, hl⟩ := hz
  exact ⟨e, w', fr, ⟨ae, σ', S', h1, h2, h3, h4⟩, hcomes, hfn, hl⟩

/-- The value that a function hands back, off its slots and the store. -/
def resOne (P : Program) (env : Env) (σ : Store) : ResultVar → Option D
  | .tmp t => some (eget t env)
  | .cell t T => match aLoad P σ T (eget t env) with | .val _ d => some d | _ => none
def resPre (P : Program) (env : Env) (σ : Store) : ResultVar → Prop
  | .tmp _ => True
  | .cell t T => match aLoad P σ T (eget t env) with | .val pre _ => pre | _ => False

def resD (P : Program) (env : Env) (σ : Store) (rs : List ResultVar) : D :=
  match rs with
  | [r] => (resOne P env σ r).getD .any
  | rs => .tup (rs.map fun r => (resOne P env σ r).getD .any)

end Go.Ab