/- Operations whose new row is only read from then on. -/
import Derived.Test.YtcpcfglccnmmnaaAbQ
set_option linter.unusedSimpArgs false
set_option linter.unusedVariables false
set_option linter.constructorNameAsVariable false
namespace Go.Ab
open Go

def litB (lit : List Nat) (o : Oper) : Bool := match o.dst with | some k => lit.contains k | none => false

/-- A new row, read only from here on. -/
def roRes : ARes → ARes
  | .new pre (.arr n xs) mk => .val (pre ∧ ∀ b, mk b = .own (some b) n xs.length) (.slc xs)
  | .app pre none _ xs => .val pre (.slc xs)
  | .app pre (some b) sz xs => .app pre (some b) sz xs
  | .new pre o mk => .new pre o mk
  | .val p d => .val p d
  | .nd ok f => .nd ok f
  | .upd p d s => .upd p d s
  | .enter f a => .enter f a
  | .panic d => .panic d
  | .bad => .bad

def aBuild0 (P : Program) (T : TypeId) : ARes :=
  match (relem P T).bind (rsize P) with
  | some n => .val True (.own none n 0)
  | none => .bad

/-- What an operation does; 'ro': the row that it makes is only read. -/
def aopL (P : Program) (ro : Bool) (env : Env) (σ : Store) (op : Op) : ARes :=
  if ro = true then
    match op with
    | .buildSlice T 0 ps => if ps.toList = [] then aBuild0 P T else .bad
    | op => roRes (aop P env σ op)
  else aop P env σ op

/-- What an operation does, where the operations that fill one of 'lit' make rows that are only read. -/
def aopD (P : Program) (lit : List Nat) (env : Env) (σ : Store) (o : Oper) : ARes := aopL P (litB lit o) env σ o.op

section steps
variable {P : Program} {N : Slots} {C : Ctx P N} {env : Env} {σ : Store} {a : Act} {w : World} {S : Nat → Prop} {o : Oper}
variable {Qp : D → Store → Prop} {next K : Env → Store → Prop} {nx : Act → World → Prop}

theorem sim_ro {k b n : Nat} {xs : List D} {tmps : Array Value} (h : Sim C (eput k (.own (some b) n xs.length) env) ((b, .arr n xs) :: σ) w S tmps) (hn : sget b σ = none) : Sim C (eput k (.slc xs) env) σ w (fun c => S c ∨ c = b) tmps := by
  have hb : sget b ((b, .arr n xs) :: σ) = some (.arr n xs) := sget_self ..
  obtain ⟨hE, hst, hfr⟩ := pub_world h.store h.fr.lt hb
  refine ⟨fun j => ?_, fun c o hc => ?_, { (h.fr.trans hfr) with dom := fun c hc => h.fr.dom c ?_ }, h.size⟩
  · have hj := h.env j
    rw [eget_eput] at hj ⊢
    by_cases hjk : j = k
    · rw [if_pos hjk] at hj ⊢
      have := rep_pub hE (.inr rfl) (h.store b _ hb).2 hj
      simpa [D.pub] using this
    · rw [if_neg hjk] at hj ⊢
      exact hj.ev hE
  · have hcb : c ≠ b := fun e => by subst e; rw [hn] at hc; cases hc
    obtain ⟨h1, h2⟩ := h.store c o (by rw [sget_cons, if_neg hcb]; exact hc)
    exact ⟨fun h => h.elim h1 hcb, h2.ev hE rfl⟩
  · unfold sdom at *
    rw [sget_cons]
    split
    · simp
    · exact hc

theorem s_build0 (h : Sim C env σ w S a.tmps) (hd0 : a.defers = C.ds) (hN : dstOk N o.dst) (hnx : ∀ a w, NX C next a w → nx a w) {T : TypeId} {ps : Array (Nat × Operand)} (ho : o.op = .buildSlice T 0 ps) (hps : ps.toList = []) {Q : Exit → Act → World → Prop}
    (hv : vcRes P Qp next o.dst env σ (aBuild0 P T)) : o.wp P a w nx Q := by
  unfold aBuild0 at hv
  split at hv
  · rename_i n hn
    obtain ⟨e, he, hs⟩ := Option.bind_eq_some_iff.1 hn
    have hps' : ps = #[] := by cases ps; simpa using hps
    subst hps'
    have hrun : (execOp a.eval o).run P w = .ok (.value (.slice (some ⟨w.heap.size, 0, none⟩) 0 0)) (w.alloc (.cells #[] e)) := by
      simp [execOp, ho, Instr.buildSlice, run_underlying (relem_eq he), run_sizeOf hs, Instr.fill, newRow, Array.range_zero']
    refine step_ok h hd0 hN hnx hrun .own0 (S' := S) (fun c o hc => ?_) ?_ hv.2
    · obtain ⟨h1, h2⟩ := h.store c o hc
      exact ⟨h1, h2.ev (ev_alloc h.fr.lt _) (frozen_new w _ c (by have := h2.lt; omega))⟩
    · refine (fr_alloc h (.cells #[] e) (.arr 0 [])).le fun c o hc => ?_
      rw [sget_cons, if_neg]
      · exact hc
      · intro e; subst e; rw [not_sdom_size h.store] at hc; cases hc
  · exact hv.elim

theorem op_soundD {lit : List Nat} (h : Sim C env σ w S a.tmps) (hd0 : a.defers = C.ds) (hN : dstOk N o.dst) (hnx : ∀ a w, NX C next a w → nx a w) (hv : vcRes P Qp next o.dst env σ (aopD P lit env σ o)) : o.wp P a w nx (QX C K Qp) := by
  have main : (∃ k, o.dst = some k) → vcRes P Qp next o.dst env σ (roRes (aop P env σ o.op)) → o.wp P a w nx (QX C K Qp) := by
    rintro ⟨k, hk⟩ hv
    cases hr : aop P env σ o.op with
    | new pre ob mk =>
      rw [hr] at hv
      cases ob with
      | arr n xs =>
        obtain ⟨⟨hp, hmk⟩, hn⟩ := hv
        refine op_sound (next := fun env1 σ1 => ∃ b, sget b σ = none ∧ env1 = eputo o.dst (.own (some b) n xs.length) env ∧ σ1 = (b, .arr n xs) :: σ) h hd0 hN ?_ (by rw [hr]; exact ⟨hp, fun b hb => ⟨b, hb, by rw [hmk], rfl⟩⟩)
        rintro a w ⟨hd, env', σ', S', ⟨b, hb, rfl, rfl⟩, hs⟩
        rw [hk] at hs hn
        exact hnx _ _ ⟨hd, _, _, _, hn, sim_ro hs hb⟩
      | mp es => exact op_sound h hd0 hN hnx (by rw [hr]; exact hv)
      | sit s p => exact op_sound h hd0 hN hnx (by rw [hr]; exact hv)
    | app pre b sz xs =>
      rw [hr] at hv
      cases b with
      | some b => exact op_sound h hd0 hN hnx (by rw [hr]; exact hv)
      | none =>
        obtain ⟨hp, hn⟩ := hv
        refine op_sound (next := fun env1 σ1 => ∃ ob : Option Nat, (ob = none → xs = []) ∧ Fresh ob σ ∧ env1 = eputo o.dst (.own ob sz xs.length) env ∧ σ1 = cellsOf ob sz xs ++ σ) h hd0 hN ?_ (by rw [hr]; exact ⟨hp, fun ob h1 h2 => ⟨ob, h1, h2, rfl, rfl⟩⟩)
        rintro a w ⟨hd, env', σ', S', ⟨ob, h1, h2, rfl, rfl⟩, hs⟩
        rw [hk] at hs hn
        cases ob with
        | some b =>
          exact hnx _ _ ⟨hd, _, _, _, hn, sim_ro hs (h2 b rfl)⟩
        | none =>
          have := h1 rfl
          subst this
          refine hnx _ _ ⟨hd, _, _, S', hn, ⟨fun j => ?_, hs.store, hs.fr, hs.size⟩⟩
          have hj := hs.env j
          simp only [eputo] at hj ⊢
          rw [eget_eput] at hj ⊢
          split
          · rename_i hjk
            rw [if_pos hjk] at hj
            generalize a.tmps.getD j undef = v at hj
            cases hj
            exact .slc0
          · rename_i hjk; rw [if_neg hjk] at hj; exact hj
    | val p d => exact op_sound h hd0 hN hnx (by rw [hr] at hv ⊢; exact hv)
    | nd ok f => exact op_sound h hd0 hN hnx (by rw [hr] at hv ⊢; exact hv)
    | upd p d s => exact op_sound h hd0 hN hnx (by rw [hr] at hv ⊢; exact hv)
    | enter f as => exact op_sound h hd0 hN hnx (by rw [hr] at hv ⊢; exact hv)
    | panic d => exact op_sound h hd0 hN hnx (by rw [hr] at hv ⊢; exact hv)
    | bad => rw [hr] at hv; exact hv.elim
  unfold aopD aopL at hv
  split at hv
  · rename_i hl
    have hk : ∃ k, o.dst = some k := by
      unfold litB at hl
      split at hl
      · exact ⟨_, by assumption⟩
      · cases hl
    split at hv
    · rename_i T ps ho
      split at hv
      · rename_i hps
        exact s_build0 h hd0 hN hnx ho hps hv
      · exact hv.elim
    · exact main hk hv
  · exact op_sound h hd0 hN hnx hv

end steps
end Go.Ab
