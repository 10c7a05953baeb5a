/- A part of a proof about the given program: the abstract machine, what functions compute, laid in few texts. -/
import Derived.Test.YticjnnmnjfpopaaGreatDoorKTa
import Derived.KernelRfl
import Derived.Orders
import Derived.Test.YticjnnmnjfpopaaGreatDoorProg
set_option linter.unusedSimpArgs false
set_option linter.unusedVariables false
set_option linter.constructorNameAsVariable false
namespace Go.Ab
open Go
theorem bytes_beq (a b : ByteArray) : (a == b) = true ↔ a = b := by
  show ByteArray.beq a b = true ↔ _
  cases a; cases b
  simp [ByteArray.beq]
section
variable {P : Program} {w : World} {S : Nat → Prop}
theorem sameNow_ok {d : TypeDesc} {k j : Value} (h : keyLike d k j = true) : Instr.sameNow d k j = some (keyEq k j) := by
  unfold keyLike at h
  split at h
  · split at h
    · simp at h; subst h; simp [Instr.sameNow, keyEq]
    · simp at h
  · split at h
    · rfl
    · cases h
  · split at h
    · rfl
    · cases h
  · cases h
theorem findNow_ok {d : TypeDesc} {k : Value} : ∀ (entries : List MapEntry) (es : List (Value × D)) (i : Nat), es.map (·.1) = entries.map (·.key) → RepL w S (es.map (·.2)) (entries.map (·.val)) → (∀ e ∈ es, keyLike d k e.1 = true) →
    (Instr.findNow d k entries i = some none ∧ mfind k es = none ∧ (∀ x, mset k x es = es ++ [(k, x)]) ∧ mdel k es = es) ∨
    (∃ m e p, Instr.findNow d k entries i = some (some (i + m, e.val)) ∧ entries[m]? = some e ∧ es[m]? = some p ∧ p.1 = e.key ∧ Rep w S p.2 e.val ∧ keyEq k e.key = true ∧ mfind k es = some p.2 ∧ (∀ x, mset k x es = es.set m (k, x)) ∧ mdel k es = es.eraseIdx m)
  | [], es, i, hk, hr, hl => by
    have : es = [] := by cases es with | nil => rfl | cons e es => simp at hk
    subst this
    exact .inl ⟨rfl, rfl, fun _ => rfl, rfl⟩
  | e :: entries, [], i, hk, hr, hl => by simp at hk
  | e :: entries, p :: es, i, hk, hr, hl => by
    obtain ⟨j, x⟩ := p
    simp only [List.map_cons, List.cons.injEq] at hk
    obtain ⟨rfl, hk⟩ := hk
    simp only [List.map_cons] at hr
    obtain ⟨v, vs, he, hx, hrs⟩ := hr.cons_inv
    cases he
    have hs := sameNow_ok (hl _ (List.mem_cons_self ..))
    cases hq : keyEq k e.key with
    | true =>
      refine .inr ⟨0, e, (e.key, x), ?_, rfl, rfl, rfl, hx, hq, ?_, ?_, ?_⟩
      · simp only at hs; simp [Instr.findNow, hs, hq]
      · simp [mfind, hq]
      · intro y; simp [mset, hq]
      · simp [mdel, hq]
    | false =>
      rcases findNow_ok entries es (i + 1) hk hrs (fun e he => hl e (by simp [he])) with ⟨h1, h2, h3, h4⟩ | ⟨m, f, p, h1, h2, h3, h4, h5, h6, h7, h8, h9⟩
      · refine .inl ⟨?_, ?_, ?_, ?_⟩
        · simp only at hs; simp [Instr.findNow, hs, hq, h1]
        · simp [mfind, hq, h2]
        · intro y; simp [mset, hq, h3]
        · simp [mdel, hq, h4]
      · refine .inr ⟨m + 1, f, p, ?_, by simpa using h2, by simpa using h3, h4, h5, h6, ?_, ?_, ?_⟩
        · simp only at hs; simp [Instr.findNow, hs, hq, h1]; omega
        · simp [mfind, hq, h7]
        · intro y; simp [mset, hq, h8]
        · simp [mdel, hq, h9]
theorem rmap_eq {T e : TypeId} {d : TypeDesc} (h : rmap P T = some (d, e)) : ∃ kt, P.underlying T = some (.map kt e) ∧ P.underlying kt = some d := by
  unfold rmap at h
  split at h
  · rename_i k e' hT
    split at h
    · rename_i d' hd; cases h; exact ⟨k, hT, hd⟩
    · cases h
  · cases h
theorem checkKey_ok {d : TypeDesc} {kt : TypeId} {k : Value} (b : Bool) (hd : P.underlying kt = some d) (hk : keyLike d k k = true) : (Instr.checkKey b 10000 kt k).run P w = .ok () w := by
  show (Instr.checkKey b (9999 + 1) kt k).run P w = _
  unfold keyLike at hk
  rw [Instr.checkKey]
  split at hk
  · split at hk
    · simp [run_underlying hd]
    · simp at hk
  · split at hk
    · simp [run_underlying hd]
    · cases hk
  · split at hk
    · simp [run_underlying hd]
    · cases hk
  · cases hk
theorem findKey_ok {d : TypeDesc} {kt : TypeId} {k : Value} {es : List MapEntry} {r : Option (Nat × Value)} (hd : P.underlying kt = some d) (h : Instr.findNow d k es 0 = some r) : (Instr.findKey kt k es).run P w = .ok r w := by
  simp [Instr.findKey, run_underlying hd, h]
theorem stays_ok {j k : Value} (h : keyEq k j = true) : (Instr.keyThatStays j k).run P w = .ok k w := by
  have : Instr.sameBits 10000 j k = true := by
    unfold keyEq at h
    split at h
    · simp only [Bool.and_eq_true, beq_iff_eq] at h; obtain ⟨rfl, rfl⟩ := h; simp [Instr.sameBits]
    · rw [bytes_beq] at h; subst h; simp only [Instr.sameBits]; exact (bytes_beq _ _).2 rfl
    · simp only [beq_iff_eq] at h; subst h; simp [Instr.sameBits]
    · cases h
  simp [Instr.keyThatStays, this]
theorem fr_map {w' : World} {σ : Store} {b : Nat} {x y : AObj} {ob : Obj} (hl : ∀ b, S b → b < w.heap.size) (hs : sget b σ = some x) (hob : ∃ es c, w.heap[b]? = some (.map es c) ∨ ∃ s p, w.heap[b]? = some (.stringIter s p)) (hw : w' = { w with heap := w.heap.setIfInBounds b ob }) :
    Fr w S (sdom σ) w' S (sset b y σ) ∧ (∀ k, k ≠ b → w'.heap[k]? = w.heap[k]?) ∧ (b < w.heap.size → w'.heap[b]? = some ob) := by
  subst hw
  have ho : ∀ k, k ≠ b → (w.heap.setIfInBounds b ob)[k]? = w.heap[k]? := fun k hk => by rw [Array.getElem?_setIfInBounds, if_neg (fun h => hk h.symm)]
  refine ⟨fr_row hl hs rfl rfl rfl (by simp) ho ?_, ho, fun hb => by simp [hb]⟩
  intro k c e fr hk
  by_cases hkb : k = b
  · subst hkb
    obtain ⟨es, c', h | ⟨s, p, h⟩⟩ := hob <;> rw [h] at hk <;> cases hk
  · exact ⟨c, fr, (ho k hkb).trans hk, rfl⟩
end
section steps
variable {P : Program} {N : Slots} {C : Ctx P N} {env : Env} {σ : Store} {a : Act} {w : World} {S : Nat → Prop} {o : Oper}
variable {Qp : D → Store → Prop} {next : Env → Store → Prop} {nx : Act → World → Prop} {Q : Exit → Act → World → Prop}
theorem map_inv {b : Nat} {v : Value} (h : Rep w S (.map b) v) : v = .map (some b) := by cases h; rfl
theorem s_lookup (h : Sim C env σ w S a.tmps) (hd0 : a.defers = C.ds) (hN : dstOk N o.dst) (hnx : ∀ a w, NX C next a w → nx a w) {T : TypeId} {x y : Operand} {ok : Bool} (ho : o.op = .lookup T x y ok)
    (hv : vcRes P Qp next o.dst env σ (aLookup P σ T (ev env x) (ev env y) ok)) : o.wp P a w nx Q := by
  unfold aLookup at hv
  split at hv
  · rename_i d e k hT hk
    obtain ⟨kt, hT1, hT2⟩ := rmap_eq hT
    have hy := toV_rep hk (ev_rep h y)
    have key : ∀ {z : Value} {es : List (Value × D)} {entries : Array MapEntry}, rzero P e = some z → es.map (·.1) = entries.toList.map (·.key) → RepL w S (es.map (·.2)) (entries.toList.map (·.val)) →
        ((a.eval x = .map none ∧ entries = #[]) ∨ ∃ b clock, a.eval x = .map (some b) ∧ (getObj b).run P w = .ok (.map entries clock) w) → vcRes P Qp next o.dst env σ (aFound d z ok k es) → o.wp P a w nx Q := by
      intro z es entries hz hke hre hrun1 hv
      obtain ⟨⟨h1, h2, h3⟩, hk'⟩ := hv
      have hzr : Rep w S (ofV z) z := rep_ofV h1
      have main : ∃ v b, (Instr.lookup T (a.eval x) (a.eval y) ok).run P w = .ok (if ok then .tuple #[v, .bool b] else v) w ∧ Rep w S ((mfind k es).getD (ofV z)) v ∧ b = (mfind k es).isSome := by
        rcases findNow_ok entries.toList es 0 hke hre h3 with ⟨f1, f2, _, _⟩ | ⟨m, f, p, f1, f2, f3, f4, f5, f6, f7, f8, f9⟩
        · refine ⟨z, false, ?_, by rw [f2]; exact hzr, by rw [f2]; rfl⟩
          unfold Instr.lookup
          rcases hrun1 with ⟨hx, rfl⟩ | ⟨b, clock, hx, hget⟩
          · simp only [Sem.run_bind, run_underlying hT1, Result.andThen_ok, hx, checkKey_ok _ hT2 h2, hy, findKey_ok hT2 f1, run_zeroValue hz, Sem.run_pure]
          · simp only [Sem.run_bind, run_underlying hT1, Result.andThen_ok, hx, hget, checkKey_ok _ hT2 h2, hy, findKey_ok hT2 f1, run_zeroValue hz, Sem.run_pure]
        · refine ⟨f.val, true, ?_, by rw [f7]; exact f5, by rw [f7]; rfl⟩
          unfold Instr.lookup
          rcases hrun1 with ⟨hx, rfl⟩ | ⟨b, clock, hx, hget⟩
          · simp at f2
          · simp only [Sem.run_bind, run_underlying hT1, Result.andThen_ok, hx, hget, checkKey_ok _ hT2 h2, hy, findKey_ok hT2 f1, Sem.run_pure]
      obtain ⟨v, b, hrun, hrep, rfl⟩ := main
      cases ok with
      | true => exact step_val h hd0 hN hnx (v := .tuple #[v, .bool (mfind k es).isSome]) (by simp only [execOp, ho]; rw [Sem.run_bind, hrun]; rfl) (.tup (.cons hrep (.cons (.v rfl) .nil))) hk'
      | false => exact step_val h hd0 hN hnx (v := v) (by simp only [execOp, ho]; rw [Sem.run_bind, hrun]; rfl) hrep hk'
    split at hv
    · rename_i z b hz hm
      have hx := ev_rep h x
      rw [hm] at hx
      split at hv
      · rename_i es hs
        obtain ⟨entries, clock, hh, hr, hke, _⟩ := (h.store b _ hs).2
        refine key hz hke hr ?_ hv
        have hget : (getObj b).run P w = .ok (.map entries clock) w := by simp [getObj, Sem.run, hh]
        exact .inr ⟨b, clock, map_inv hx, hget⟩
      · exact hv.elim
    · rename_i z hz hm
      have hx := ev_rep h x
      rw [hm] at hx
      exact key (entries := #[]) hz rfl .nil (.inl ⟨hx.v_inv, rfl⟩) hv
    · exact hv.elim
  · exact hv.elim
theorem set_entries {es : List (Value × D)} {entries : Array MapEntry} {m : Nat} {k : Value} {x : D} {xv : Value} (hk : es.map (·.1) = entries.toList.map (·.key)) (hr : RepL w S (es.map (·.2)) (entries.toList.map (·.val))) (hx : Rep w S x xv) :
    (es.set m (k, x)).map (·.1) = (entries.modify m fun e => { e with key := k, val := xv }).toList.map (·.key) ∧ RepL w S ((es.set m (k, x)).map (·.2)) ((entries.modify m fun e => { e with key := k, val := xv }).toList.map (·.val)) ∧
    (entries.modify m fun e => { e with key := k, val := xv }).toList.map (·.born) = entries.toList.map (·.born) := by
  have e1 : (entries.modify m fun e => { e with key := k, val := xv }).toList.map (·.key) = (entries.toList.map (·.key)).set m k := by
    apply List.ext_getElem?
    intro i
    simp only [List.getElem?_map, Array.getElem?_toList, Array.getElem?_modify, List.getElem?_set, List.length_map, Array.length_toList]
    by_cases h : m = i
    · subst h
      by_cases hl : m < entries.size <;> simp [hl]
    · simp [h]
  have e2 : (entries.modify m fun e => { e with key := k, val := xv }).toList.map (·.val) = (entries.toList.map (·.val)).set m xv := by
    apply List.ext_getElem?
    intro i
    simp only [List.getElem?_map, Array.getElem?_toList, Array.getElem?_modify, List.getElem?_set, List.length_map, Array.length_toList]
    by_cases h : m = i
    · subst h
      by_cases hl : m < entries.size <;> simp [hl]
    · simp [h]
  have e3 : (entries.modify m fun e => { e with key := k, val := xv }).toList.map (·.born) = entries.toList.map (·.born) := by
    apply List.ext_getElem?
    intro i
    simp only [List.getElem?_map, Array.getElem?_toList, Array.getElem?_modify]
    by_cases h : m = i
    · subst h
      by_cases hl : m < entries.size <;> simp [hl]
    · simp [h]
  refine ⟨?_, ?_, e3⟩
  · rw [e1, ← hk]; simp [List.map_set]
  · rw [e2]
    have : (es.set m (k, x)).map (·.2) = (es.map (·.2)).set m x := by simp [List.map_set]
    rw [this]
    exact hr.set m hx
theorem s_mapUpdate (h : Sim C env σ w S a.tmps) (hd0 : a.defers = C.ds) (hN : dstOk N o.dst) (hnx : ∀ a w, NX C next a w → nx a w) {T : TypeId} {m k x : Operand} (ho : o.op = .mapUpdate T m k x ∨ o.op = .insert T m k x)
    (hv : vcRes P Qp next o.dst env σ (aMapUpdate P σ T (ev env m) (ev env k) (ev env x))) : o.wp P a w nx Q := by
  unfold aMapUpdate at hv
  split at hv
  · rename_i d e kv b hT hkv hm
    obtain ⟨kt, hT1, hT2⟩ := rmap_eq hT
    have hk := toV_rep hkv (ev_rep h k)
    have hmr := ev_rep h m
    rw [hm] at hmr
    have hmv := map_inv hmr
    have hx := ev_rep h x
    split at hv
    · rename_i es hs
      obtain ⟨⟨h1, h2⟩, hk'⟩ := hv
      obtain ⟨hSb, hobj⟩ := h.store b _ hs
      obtain ⟨entries, clock, hh, hr, hke, hborn, hnd⟩ := hobj
      have hlt := (Array.getElem?_eq_some_iff.1 hh).1
      have hget : (getObj b).run P w = .ok (.map entries clock) w := by simp [getObj, Sem.run, hh]
      have main : ∃ ob, (Instr.mapUpdate T (a.eval m) (a.eval k) (a.eval x)).run P w = .ok () { w with heap := w.heap.setIfInBounds b ob } ∧
          (∀ w' S', Ev w S w' S' → w'.heap[b]? = some ob → RepObj w' S' b (.mp (mset kv (ev env x) es))) := by
        rcases findNow_ok entries.toList es 0 hke hr h2 with ⟨f1, f2, f3, _⟩ | ⟨j, f, p, f1, f2, f3, f4, f5, f6, f7, f8, f9⟩
        · refine ⟨.map (entries.push { key := kv, val := a.eval x, born := clock }) (clock + 1), ?_, ?_⟩
          · have hset : (setObj b (.map (entries.push { key := kv, val := a.eval x, born := clock }) (clock + 1))).run P w = .ok () { w with heap := w.heap.setIfInBounds b (.map (entries.push { key := kv, val := a.eval x, born := clock }) (clock + 1)) } := by
              simp [setObj, Sem.run, hh]
            unfold Instr.mapUpdate
            simp only [Sem.run_bind, run_underlying hT1, Result.andThen_ok, hmv, hget, checkKey_ok _ hT2 h1, hk, findKey_ok hT2 f1]
            exact hset
          · intro w' S' hE hb'
            refine ⟨_, _, hb', ?_, ?_, ?_, ?_⟩
            · rw [f3]; simpa using (hr.ev hE).append (.one (hx.ev hE))
            · rw [f3]; simp [hke]
            · intro e he
              simp only [Array.toList_push, List.mem_append, List.mem_singleton] at he
              rcases he with he | rfl
              · have := hborn e he; omega
              · exact Nat.lt_succ_self _
            · simp only [Array.toList_push, List.map_append, List.map_cons, List.map_nil]
              rw [List.nodup_append]
              refine ⟨hnd, by simp, ?_⟩
              intro x hx y hy
              obtain ⟨e, he, rfl⟩ := List.mem_map.1 hx
              have := hborn e he
              simp at hy
              omega
        · refine ⟨.map (entries.modify (0 + j) fun e => { e with key := kv, val := a.eval x }) clock, ?_, ?_⟩
          · have hset : (setObj b (.map (entries.modify (0 + j) fun e => { e with key := kv, val := a.eval x }) clock)).run P w = .ok () { w with heap := w.heap.setIfInBounds b (.map (entries.modify (0 + j) fun e => { e with key := kv, val := a.eval x }) clock) } := by
              simp [setObj, Sem.run, hh]
            have hst : (Instr.keyThatStays (((entries[0 + j]?).map (·.key)).getD kv) kv).run P w = .ok kv w := by
              have : entries[0 + j]? = some f := by simpa using f2
              rw [this]; exact stays_ok f6
            unfold Instr.mapUpdate
            simp only [Sem.run_bind, run_underlying hT1, Result.andThen_ok, hmv, hget, checkKey_ok _ hT2 h1, hk, findKey_ok hT2 f1, hst]
            exact hset
          · intro w' S' hE hb'
            obtain ⟨g1, g2, g3⟩ := set_entries (m := 0 + j) (k := kv) hke (hr.ev hE) (hx.ev hE)
            refine ⟨_, _, hb', ?_, ?_, ?_, ?_⟩
            · rw [f8]; simpa using g2
            · rw [f8]; simpa using g1
            · intro e he
              have : e.born ∈ (entries.modify (0 + j) fun e => { e with key := kv, val := a.eval x }).toList.map (·.born) := List.mem_map.2 ⟨e, he, rfl⟩
              rw [g3] at this
              obtain ⟨e', he', hb⟩ := List.mem_map.1 this
              rw [← hb]; exact hborn e' he'
            · rw [g3]; exact hnd
      obtain ⟨ob, hrun, hrep⟩ := main
      obtain ⟨hfr, hother, hself⟩ := fr_map (σ := σ) (y := .mp (mset kv (ev env x) es)) (ob := ob) h.fr.lt hs ⟨entries, clock, .inl hh⟩ rfl
      have hE := sim_ev h hfr
      exact step_skip_ok h hd0 hN hnx (by rcases ho with ho | ho <;> (simp only [execOp, ho]; rw [Sem.run_bind, hrun]; rfl)) (store_row h.store hE hother hSb (hrep _ _ hE (hself hlt))) hfr hk'
    · exact hv.elim
  · exact hv.elim
theorem ptr_iter {b : Nat} {v : Value} (h : Rep w S (.ptr b 0 0 0) v) : v = .pointer (some ⟨b, 0, none⟩) := by cases h; rfl
theorem s_range (h : Sim C env σ w S a.tmps) (hd0 : a.defers = C.ds) (hN : dstOk N o.dst) (hnx : ∀ a w, NX C next a w → nx a w) {T : TypeId} {x : Operand} (ho : o.op = .range T x)
    (hv : vcRes P Qp next o.dst env σ (aRange P T (ev env x))) : o.wp P a w nx Q := by
  unfold aRange at hv
  split at hv
  · rename_i s hT hd
    have hx := ev_rep h x
    rw [hd] at hx
    refine step_new h hd0 hN hnx (ob := .stringIter s 0) (x := .sit s 0) (d := .ptr w.heap.size 0 0 0) (v := .pointer (some ⟨w.heap.size, 0, none⟩)) ?_ (heap_alloc w _) (by simpa using (Rep.ptr (sz := 0) (i := 0) (o := 0) : Rep (w.alloc (.stringIter s 0)) S (.ptr w.heap.size 0 0 0) _)) (hv.2 _ (not_sdom_size h.store))
    simp [execOp, ho, hx.v_inv, Instr.range, run_underlying hT]
  · exact hv.elim
theorem vcRes_ite {c : Prop} [Decidable c] {dst : Option Nat} {x y : ARes} (hv : vcRes P Qp next dst env σ (if c then x else y)) : (c ∧ vcRes P Qp next dst env σ x) ∨ (¬ c ∧ vcRes P Qp next dst env σ y) := by
  by_cases hc : c
  · rw [if_pos hc] at hv; exact .inl ⟨hc, hv⟩
  · rw [if_neg hc] at hv; exact .inr ⟨hc, hv⟩
theorem s_next (h : Sim C env σ w S a.tmps) (hd0 : a.defers = C.ds) (hN : dstOk N o.dst) (hnx : ∀ a w, NX C next a w → nx a w) {x : Operand} {b : Bool} (ho : o.op = .next x b)
    (hv : vcRes P Qp next o.dst env σ (aNext σ (ev env x) b)) : o.wp P a w nx Q := by
  unfold aNext at hv
  split at hv
  · rename_i b' hd
    have hx := ev_rep h x
    rw [hd] at hx
    have hxe := ptr_iter hx
    split at hv
    · rename_i s p hs
      obtain ⟨hSb, hobj⟩ := h.store b' _ hs
      have hh : w.heap[b']? = some (.stringIter s p) := hobj
      have hlt := (Array.getElem?_eq_some_iff.1 hh).1
      have hget : (getObj b').run P w = .ok (.stringIter s p) w := by simp [getObj, Sem.run, hh]
      rcases vcRes_ite hv with ⟨hp, hv⟩ | ⟨hp, hv⟩
      · have hset : (setObj b' (.stringIter s (p + (Utf8.decode s p).2))).run P w = .ok () { w with heap := w.heap.setIfInBounds b' (.stringIter s (p + (Utf8.decode s p).2)) } := by
          simp [setObj, Sem.run, hh]
        obtain ⟨hfr, hother, hself⟩ := fr_map (σ := σ) (y := .sit s (p + (Utf8.decode s p).2)) (ob := .stringIter s (p + (Utf8.decode s p).2)) h.fr.lt hs ⟨#[], 0, .inr ⟨s, p, hh⟩⟩ rfl
        have hE := sim_ev h hfr
        refine step_ok h hd0 hN hnx (v := .tuple #[.bool true, goInt p, .int .i32 (Utf8.decode s p).1]) ?_ (.tup (.cons (.v rfl) (.cons (.v rfl) (.cons (.v rfl) .nil)))) (store_row (y := .sit s (p + (Utf8.decode s p).2)) h.store hE hother hSb (hself hlt)) hfr hv.2
        simp only [execOp, ho, hxe]
        unfold Instr.next
        simp only [Sem.run_bind, hget, Result.andThen_ok, if_pos hp, hset, Sem.run_pure]
      · refine step_val h hd0 hN hnx (v := .tuple #[.bool false]) ?_ (.tup (.cons (.v rfl) .nil)) hv.2
        simp only [execOp, ho, hxe]
        unfold Instr.next
        simp only [Sem.run_bind, hget, Result.andThen_ok, if_neg hp, Sem.run_pure]
    · exact hv.elim
  · exact hv.elim
end steps
end Go.Ab
namespace Go.Ab
open Go
section
variable {P : Program} {w : World} {S : Nat → Prop}
structure Src (P : Program) (w : World) (n : Nat) (x : Value) (news : List Value) (m : Nat) : Prop where
  len : ∀ w', (Builtin.lenOf x).run P w' = .ok m w'
  cells : ∀ w', w'.heap = w.heap → (Builtin.firstCells n m x).run P w' = .ok news.toArray w'
  size : news.length = m * n
theorem cell_heap {w w' : World} (h : w'.heap = w.heap) (a : Addr) : w'.cell? a = w.cell? a := by simp [World.cell?, h]
theorem src_ok {σ : Store} {x : D} {xv : Value} {ys : List D} {n : Nat} (hst : RepStore w S σ) (hx : Rep w S x xv) (h : srcOf σ x = some ys) (hn : ∀ y ∈ ys, y.cells.length = n ∧ y.plain = true) :
    ∃ news, Src P w n xv news ys.length ∧ RepL w S (flat ys) news := by
  have fromCells : ∀ {b off len cap : Nat} {vals : List Value}, xv = .slice (some ⟨b, off, none⟩) len cap → len = ys.length → RepL w S (flat ys) vals → (∀ k v, vals[k]? = some v → w.cell? ⟨b, off + k, none⟩ = some v) →
      ∃ news, Src P w n xv news ys.length ∧ RepL w S (flat ys) news := by
    intro b off len cap vals he hl hr hc
    subst he; subst hl
    have hvl : vals.length = ys.length * n := by rw [hr.length, flat_length ys n (fun y hy => (hn y hy).1)]
    refine ⟨vals, ⟨fun w' => rfl, fun w' hw => ?_, hvl⟩, hr⟩
    exact run_firstCells_some (P := P) w' n ys.length ⟨b, off, none⟩ ys.length cap vals hvl (fun j v hj => by rw [add_block, cell_heap hw]; exact hc j v hj)
  have nothing : ∀ {ad : Option Addr} {cap : Nat}, xv = .slice ad 0 cap → ys = [] → ∃ news, Src P w n xv news ys.length ∧ RepL w S (flat ys) news := by
    intro ad cap he hy
    subst he; subst hy
    refine ⟨[], ⟨fun w' => rfl, fun w' _ => ?_, by simp⟩, .nil⟩
    cases ad with
    | none => exact run_firstCells_none w' n 0 0 cap
    | some a => exact run_firstCells_some (P := P) w' n 0 a 0 cap [] (by simp) (fun j v hj => by simp at hj)
  unfold srcOf at h
  split at h
  · cases h
    obtain ⟨ad, cap, he, hcap, rfl | ⟨b, off, sz, vals, rfl, hb, hr, hc, hs⟩⟩ := slc_inv hx
    · exact nothing he rfl
    · exact fromCells he rfl hr hc
  · rename_i ob sz k
    split at h
    · rename_i xs hs
      split at h
      · rename_i hk
        cases h
        cases ob with
        | none =>
          obtain ⟨ad, he, rfl⟩ := own0_inv hx
          exact nothing he rfl
        | some b =>
          simp only [oget] at hs
          split at hs
          · rename_i s zs hg
            split at hs
            · rename_i hs1
              cases hs; subst hs1
              obtain ⟨cap, c, e, fr, he, hcap, hh, hcs⟩ := own_inv hx
              obtain ⟨c', e', lo, hi, vals, hh', hr, hc, hs', hfz⟩ := (hst b _ hg).2
              rw [hh] at hh'; cases hh'
              refine fromCells (vals := vals.take (k * s)) he (by simp; omega) ?_ ?_
              · rw [flat_take xs k hs']; exact hr.take _
              · intro j v hj
                rw [List.getElem?_take] at hj
                split at hj
                · rw [Nat.zero_add, cells_of_row hh]; exact hc j v hj
                · cases hj
            · cases hs
          · cases hs
      · cases h
    · cases h
  · rename_i b sz off k
    split at h
    · rename_i xs hs
      split at h
      · rename_i hk
        cases h
        rcases win_inv hx with ⟨ad, cap, he, rfl⟩ | ⟨cap, c, e, fr, he, hcap, hh, hcs, hcm⟩
        · exact nothing he (by simp)
        · simp only [oget] at hs
          split at hs
          · rename_i s zs hg
            split at hs
            · rename_i hs1
              cases hs; subst hs1
              obtain ⟨c', e', lo, hi, vals, hh', hr, hc, hs', hfz⟩ := (hst b _ hg).2
              rw [hh] at hh'; cases hh'
              refine fromCells (vals := (vals.drop (off * s)).take (k * s)) he (by simp; omega) ?_ ?_
              · rw [flat_take _ k (fun y hy => hs' y (List.mem_of_mem_drop hy)), flat_drop xs off hs']; exact (hr.drop _).take _
              · intro j v hj
                rw [List.getElem?_take] at hj
                split at hj
                · rw [List.getElem?_drop] at hj
                  rw [cells_of_row hh]; exact hc _ v hj
                · cases hj
            · cases hs
          · cases hs
      · cases h
    · cases h
  · cases h
    exact nothing hx.v_inv rfl
  · cases h
    rename_i s
    have he := hx.v_inv
    subst he
    have hl : (s.data.toList.map bD).length = s.size := by simp
    rw [hl]
    refine ⟨s.data.toList.map fun c => .int .u8 (c.toNat : Int), ⟨fun w' => rfl, fun w' _ => ?_, ?_⟩, by rw [flat_bD]; exact repL_bD _⟩
    · have : (s.extract 0 s.size) = s := by simp
      simp only [Builtin.firstCells, Sem.run_pure, this]
      congr 1
      apply Array.ext'
      simp
    · simp only [List.length_map, Array.length_toList]
      cases hsl : s.data.toList with
      | nil => have : s.size = 0 := by show s.data.size = 0; rw [← Array.length_toList, hsl]; rfl
               have h0 : s.data.size = 0 := this
               rw [this, h0, Nat.zero_mul]
      | cons c r =>
        have := (hn (bD c) (by rw [hsl]; simp)).1
        have hn1 : n = 1 := this.symm
        subst hn1
        show s.data.size = s.size * 1
        rw [Nat.mul_one]; rfl
  · cases h
theorem app_room {ts : Array TypeId} {T T2 ty e e2 : TypeId} {i : TypeInfo} {g sLen sCap m : Nat} {xv : Value} {news : List Value} {c : Array Value} {fr : Nat × Nat} (h0 : ts[0]? = some T) (h1 : ts[1]? = some T2) (hT : P.underlying T = some (.slice e)) (hT2 : P.underlying T2 = P.underlying T ∨ isStr P T2 = true)
    (hi : P.info? e = some i) (hsrc : Src P w i.size xv news m) (hh : w.heap[g]? = some (.cells c e2 fr)) (hcs : sCap * i.size ≤ c.size) (hfz : fr.2 ≤ fr.1 ∨ c.size ≤ fr.1) (ho : ∀ v ∈ news, v.oneCell' = true) (hroom : sLen + m ≤ sCap) :
    (Builtin.append_ ts ty #[.slice (some ⟨g, 0, none⟩) sLen sCap, xv]).run P w = .ok (.slice (some ⟨g, 0, none⟩) (sLen + m) sCap) (w.setCells g (sLen * i.size) news) := by
  have hz : ∃ d, P.underlying T2 = some d ∧ ∀ k, d ≠ .int k := by
    rcases hT2 with h | h
    · exact ⟨_, h.trans hT, fun k hk => nomatch hk⟩
    · exact ⟨_, isStr_eq h, fun k hk => nomatch hk⟩
  obtain ⟨d, hd, hdn⟩ := hz
  have hfit : sLen * i.size + news.length ≤ c.size := by rw [hsrc.size, ← Nat.add_mul]; exact Nat.le_trans (Nat.mul_le_mul_right _ hroom) hcs
  have hst := run_storeCells_cells (P := P) g (sLen * i.size) news 0 w
    (fun j hj => by rw [cells_of_row hh, Array.getElem?_eq_getElem (by omega)]; rfl)
    (fun j hj => by
      unfold World.frozen?
      simp only [hh]
      obtain ⟨lo, hi'⟩ := fr
      simp at hfz ⊢; omega) ho
  simp only [Nat.add_zero] at hst
  have hadd : (⟨g, 0, none⟩ : Addr).add (sLen * i.size) = ⟨g, sLen * i.size, none⟩ := by rw [add_block, Nat.zero_add]
  have hc := hsrc.cells w rfl
  unfold Builtin.append_
  simp [h0, h1, run_underlying hT, run_underlying hd, sizeOf, typeInfo, hi, hsrc.len, hroom, hc, hadd, hst]
theorem app_grow {ts : Array TypeId} {T T2 ty e : TypeId} {i : TypeInfo} {z : Value} {ad : Option Addr} {sLen sCap m : Nat} {xv : Value} {news olds : List Value} (h0 : ts[0]? = some T) (h1 : ts[1]? = some T2) (hT : P.underlying T = some (.slice e)) (hT2 : P.underlying T2 = P.underlying T ∨ isStr P T2 = true)
    (hi : P.info? e = some i) (hz : i.zero = some z) (hsrc : Src P w i.size xv news m) (hold : ∀ w', w'.heap = w.heap → (Builtin.firstCells i.size sLen (.slice ad sLen sCap)).run P w' = .ok olds.toArray w')
    (hroom : sCap < sLen + m) (hb : (sLen + m) * i.bytes ≤ 2 ^ 46) (hlt : sLen + m < 2 ^ 46) :
    (Builtin.append_ ts ty #[.slice ad sLen sCap, xv]).run P w = .ok (.slice (some ⟨w.heap.size, 0, none⟩) (sLen + m) (grownCap w (sLen + m) sCap e))
      (w.drew.alloc (.cells (olds.toArray ++ news.toArray ++ Builtin.zeroCells z.cells (grownCap w (sLen + m) sCap e - (sLen + m))) e)) := by
  have hz : ∃ d, P.underlying T2 = some d ∧ ∀ k, d ≠ .int k := by
    rcases hT2 with h | h
    · exact ⟨_, h.trans hT, fun k hk => nomatch hk⟩
    · exact ⟨_, isStr_eq h, fun k hk => nomatch hk⟩
  obtain ⟨d, hd, hdn⟩ := hz
  have hn : ¬ (sLen + m ≤ sCap) := by omega
  have h63 : ¬ (9223372036854775807 < ((sLen : Int) + (m : Int))) := by omega
  have h48 : ¬ (281474976710656 < Builtin.nextslicecap (sLen + m) sCap * i.bytes) := by
    have := growslice_fits (need := sLen + m) (old := sCap) (bytes := i.bytes) (by omega) (by omega)
    omega
  have hc := hsrc.cells w.drew rfl
  have ho := hold w.drew rfl
  unfold Builtin.append_
  simp [h0, h1, run_underlying hT, run_underlying hd, sizeOf, typeInfo, zeroValue, hi, hz, hsrc.len, hn, h63, h48, Question.forced, hc, ho, newRow, grownCap]
  congr 2
  apply Array.ext'
  simp [List.append_assoc]
end
end Go.Ab
namespace Go.Ab
open Go
section steps
variable {P : Program} {N : Slots} {C : Ctx P N} {env : Env} {σ : Store} {a : Act} {w : World} {S : Nat → Prop} {o : Oper}
variable {Qp : D → Store → Prop} {next : Env → Store → Prop} {nx : Act → World → Prop} {Q : Exit → Act → World → Prop}
theorem flat_one {ys : List D} {vals : List Value} (hr : RepL w S (flat ys) vals) (hn : ∀ y ∈ ys, y.plain = true) : ∀ v ∈ vals, v.oneCell' = true := by
  refine hr.one_cell fun d hd => ?_
  obtain ⟨y, hy, hdy⟩ := List.mem_flatMap.1 hd
  have := hn y hy
  unfold D.plain at this
  simp only [Bool.and_eq_true, List.all_eq_true] at this
  exact this.2 d hdy
theorem ofV_size (z : Value) : (ofV z).cells.length = z.cells.size := by cases z <;> simp [ofV, D.cells, Value.cells]
theorem ev_drew (w : World) (S : Nat → Prop) : Ev w S w.drew S := ⟨fun _ h => h, fun _ _ => rfl, Shape.refl w⟩
theorem sle_sdelo (b : Option Nat) (σ : Store) : SLe (sdelo b σ) σ := by
  intro k o hk
  cases b with
  | none => exact hk
  | some b =>
    simp only [sdelo] at hk
    rw [sget_sdel] at hk
    split at hk
    · cases hk
    · exact hk
theorem s_append (h : Sim C env σ w S a.tmps) (hd0 : a.defers = C.ds) (hN : dstOk N o.dst) (hnx : ∀ a w, NX C next a w → nx a w) {T T2 ty : TypeId} {ts : Array TypeId} {s x : D} {sv xv : Value} (hs : Rep w S s sv) (hx : Rep w S x xv)
    (ho : (execOp a.eval o).run P w = ((Builtin.append_ ts ty #[sv, xv]).run P w).andThen fun v w => .ok (.value v) w) (ht0 : ts[0]? = some T) (ht1 : ts[1]? = some T2)
    (hv : vcRes P Qp next o.dst env σ (aAppend P σ T T2 s x)) : o.wp P a w nx Q := by
  unfold aAppend at hv
  split at hv
  · rename_i e ys he hys
    have hT := relem_eq he
    split at hv
    · rename_i n bt z hn hb hz
      have hinf : ∃ i, P.info? e = some i ∧ i.size = n ∧ i.bytes = bt ∧ i.zero = some z := by
        unfold rsize at hn; unfold rzero at hz; unfold rbytes at hb
        cases hi : P.info? e with
        | none => rw [hi] at hn; simp at hn
        | some i => rw [hi] at hn hz hb; simp at hn hz hb; exact ⟨i, rfl, hn, hb, hz⟩
      obtain ⟨i, hi, rfl, rfl, hiz⟩ := hinf
      -- growing: from olds, the elements so far
      have grow : ∀ {b : Option Nat} {old : List D} {olds : List Value} {ad : Option Addr} {cap : Nat}, sv = .slice ad old.length cap → RepL w S (flat old) olds → (∀ y ∈ old, y.cells.length = i.size) →
          (∀ w', w'.heap = w.heap → (Builtin.firstCells i.size old.length (.slice ad old.length cap)).run P w' = .ok olds.toArray w') → cap < old.length + ys.length →
          vcRes P Qp next o.dst env σ (.app ((P.underlying T2 = P.underlying T ∨ isStr P T2 = true) ∧ okV z = true ∧ (ofV z).cells.length = i.size ∧ (∀ y ∈ ys, y.cells.length = i.size ∧ y.plain = true) ∧ (old.length + ys.length) * i.bytes ≤ 2 ^ 46 ∧ old.length + ys.length < 2 ^ 46) b i.size (old ++ ys)) → o.wp P a w nx Q := by
        intro b old olds ad cap hsv hro hso hfc hcap hv
        obtain ⟨⟨h1, h2, h3, h4, h5, h6⟩, hk⟩ := hv
        obtain ⟨news, hsrc, hrn⟩ := src_ok h.store hx hys h4
        have hrun := app_grow (ty := ty) ht0 ht1 hT h1 hi hiz hsrc hfc hcap h5 h6
        generalize hg : grownCap w (old.length + ys.length) cap e = nc at hrun
        have hge : old.length + ys.length ≤ nc := by rw [← hg]; exact grownCap_ge w _ cap e
        have hgm : nc ≤ 9223372036854775807 := by rw [← hg]; exact grownCap_le_maxLen w _ cap e (by unfold maxLen; omega)
        have holdl : olds.length = old.length * i.size := by rw [hro.length, flat_length old i.size hso]
        have hsle := sle_sdelo b σ
        have hsim' : Sim C env (sdelo b σ) w S a.tmps := ⟨h.env, h.store.le hsle, h.fr.le hsle, h.size⟩
        have hfresh := not_sdom_size hsim'.store
        have hnx' := hk (some w.heap.size) (fun hh => nomatch hh) (fun c hc => by cases hc; exact hfresh)
        simp only [cellsOf, List.cons_append, List.nil_append] at hnx'
        have hzs : z.cells.size = i.size := by rw [← ofV_size]; exact h3
        refine step_drew_new hsim' hd0 hN hnx (v := .slice (some ⟨w.heap.size, 0, none⟩) (old.length + ys.length) nc) (by rw [ho, hsv, hrun]; rfl) (x := .arr i.size (old ++ ys)) ?_ ?_ hnx'
        · refine ⟨_, e, 0, 0, olds ++ news, heap_alloc w.drew _, ?_, ?_, ?_, .inl (Nat.le_refl _)⟩
          · rw [flat_append]
            have hE : Ev w S (w.drew.alloc (.cells (olds.toArray ++ news.toArray ++ Builtin.zeroCells z.cells (nc - (old.length + ys.length))) e)) S := (ev_drew w S).trans (ev_alloc (w := w.drew) h.fr.lt _)
            exact (hro.append hrn).ev hE
          · intro k v hkv
            rw [Array.getElem?_append_left (by
              have := (List.getElem?_eq_some_iff.1 hkv).1
              simpa using this)]
            simpa using hkv
          · intro y hy
            rcases List.mem_append.1 hy with hy | hy
            · exact hso y hy
            · exact (h4 y hy).1
        · have : (old ++ ys).length = old.length + ys.length := by simp
          rw [this]
          refine Rep.own (heap_alloc w.drew _) hge ?_ hgm
          simp only [Array.size_append, List.size_toArray, size_zeroCells, hzs, holdl, hsrc.size]
          obtain ⟨d, rfl⟩ : ∃ d, nc = old.length + ys.length + d := ⟨nc - (old.length + ys.length), by omega⟩
          rw [Nat.add_sub_cancel_left, Nat.add_mul, Nat.add_mul]
          exact Nat.le_refl _
      -- from a slice without room
      have fromNone : ∀ {ad : Option Addr}, sv = .slice ad 0 0 → vcRes P Qp next o.dst env σ (.app ((P.underlying T2 = P.underlying T ∨ isStr P T2 = true) ∧ okV z = true ∧ (ofV z).cells.length = i.size ∧ (∀ y ∈ ys, y.cells.length = i.size ∧ y.plain = true) ∧ (([] : List D).length + ys.length) * i.bytes ≤ 2 ^ 46 ∧ ([] : List D).length + ys.length < 2 ^ 46) none i.size ys) → o.wp P a w nx Q := by
        intro ad hsv hv
        by_cases hy : ys = []
        · subst hy
          obtain ⟨⟨h1, h2, h3, h4, h5, h6⟩, hk⟩ := hv
          obtain ⟨news, hsrc, hrn⟩ := src_ok h.store hx hys h4
          have hnx' := hk none (fun _ => rfl) (fun c hc => nomatch hc)
          refine step_val h hd0 hN hnx (v := .slice ad 0 0) ?_ .own0 hnx'
          have hzz : ∃ d, P.underlying T2 = some d ∧ ∀ k, d ≠ .int k := by
            rcases h1 with h | h
            · exact ⟨_, h.trans hT, fun k hk => nomatch hk⟩
            · exact ⟨_, isStr_eq h, fun k hk => nomatch hk⟩
          obtain ⟨d, hd, hdn⟩ := hzz
          have hnews : news = [] := List.eq_nil_of_length_eq_zero (by rw [hsrc.size]; simp)
          subst hnews
          have hc := hsrc.cells w rfl
          have hl : (Builtin.lenOf xv).run P w = .ok 0 w := hsrc.len w
          have hc' : (Builtin.firstCells i.size 0 xv).run P w = .ok #[] w := hc
          rw [ho, hsv]
          have : (Builtin.append_ ts ty #[.slice ad 0 0, xv]).run P w = .ok (.slice ad 0 0) w := by
            unfold Builtin.append_
            cases ad <;> simp [ht0, ht1, run_underlying hT, run_underlying hd, sizeOf, typeInfo, hi, hl, hc', storeCells]
          rw [this]; rfl
        · have hp : 0 < ys.length := List.length_pos_iff.2 hy
          refine grow (b := none) (old := []) (olds := []) (ad := ad) (cap := 0) hsv .nil (by simp) (fun w' _ => ?_) (by simpa using hp) hv
          cases ad with
          | none => exact run_firstCells_none w' _ 0 0 0
          | some ad => exact run_firstCells_some (P := P) w' _ 0 ad 0 0 [] (by simp) (fun j v hj => by simp at hj)
      dsimp only at hv
      split at hv
      · exact fromNone hs.v_inv hv
      · rename_i ob sz k
        split at hv
        · rename_i xs hgo
          cases ob with
          | none =>
            simp only [oget, Option.some.injEq] at hgo
            subst hgo
            obtain ⟨ad, hsv, rfl⟩ := own0_inv hs
            exact fromNone hsv ⟨hv.1.2.2, hv.2⟩
          | some b =>
          simp only [oget] at hgo
          split at hgo
          case h_2 => cases hgo
          rename_i sz' zs hgs
          split at hgo
          case isFalse => cases hgo
          rename_i hs1
          cases hgo
          subst hs1
          have hv' := hv
          obtain ⟨⟨rfl, hk, hpre⟩, hkk⟩ := hv
          obtain ⟨cap, c, e', fr, hsv, hcap, hh, hcs, hcm⟩ := own_cap hs
          obtain ⟨hSb, hobj⟩ := h.store b _ hgs
          obtain ⟨c', e'', lo, hi', vals, hh', hr, hc, hs', hfz⟩ := hobj
          rw [hh] at hh'; cases hh'
          have hlen : (xs.take k).length = k := by simp; omega
          have hvl : vals.length = xs.length * i.size := by rw [hr.length, flat_length xs _ hs']
          have hro : RepL w S (flat (xs.take k)) (vals.take (k * i.size)) := by rw [flat_take xs k hs']; exact hr.take _
          have hso : ∀ y ∈ xs.take k, y.cells.length = i.size := fun y hy => hs' y (List.mem_of_mem_take hy)
          by_cases hroom : k + ys.length ≤ cap
          · obtain ⟨h1, h2, h3, h4, h5, h6⟩ := hpre
            obtain ⟨news, hsrc, hrn⟩ := src_ok h.store hx hys h4
            have hone := flat_one hrn (fun y hy => (h4 y hy).2)
            have hrun := app_room (ty := ty) (fr := (lo, hi')) ht0 ht1 hT h1 hi hsrc hh hcs hfz hone hroom
            have hfit : k * i.size + news.length ≤ c.size := by rw [hsrc.size, ← Nat.add_mul]; exact Nat.le_trans (Nat.mul_le_mul_right _ hroom) hcs
            obtain ⟨c', hc'1, hc'2, hc'3⟩ := setCells_heap b e' (lo, hi') news (k * i.size) w c hh hfit
            have hother := fun j hj => setCells_other b news (k * i.size) w j hj
            obtain ⟨f1, f2, f3, f4⟩ := setCells_fields b news (k * i.size) w
            have hsh := shape_row hother hh hc'1 hc'2
            have hfr0 := fr_row (y := .arr i.size (xs.take k ++ ys)) h.fr.lt hgs f1 f2 f3 f4 hother hsh
            have hE := sim_ev h hfr0
            have hnew : RepObj (w.setCells b (k * i.size) news) S b (.arr i.size (xs.take k ++ ys)) := by
              refine ⟨c', e', lo, hi', vals.take (k * i.size) ++ news, hc'1, ?_, ?_, ?_, by rw [hc'2]; exact hfz⟩
              · rw [flat_append]; exact (hro.append hrn).ev hE
              · intro j v hj
                have hvk : (vals.take (k * i.size)).length = k * i.size := by
                  rw [List.length_take, hvl, Nat.min_eq_left (Nat.mul_le_mul_right _ hk)]
                rw [hc'3]
                by_cases hin : k * i.size ≤ j ∧ j < k * i.size + news.length
                · rw [if_pos hin]
                  rw [List.getElem?_append_right (by omega), hvk] at hj
                  exact hj
                · rw [if_neg hin]
                  have hjl := (List.getElem?_eq_some_iff.1 hj).1
                  rw [List.length_append, hvk] at hjl
                  rw [List.getElem?_append_left (by omega), List.getElem?_take] at hj
                  split at hj
                  · exact hc j v hj
                  · cases hj
              · intro y hy
                rcases List.mem_append.1 hy with hy | hy
                · exact hso y hy
                · exact (h4 y hy).1
            have hst := store_row h.store hE hother hSb hnew
            have hfresh : sget b (sdel b σ) = none := by rw [sget_sdel, if_pos rfl]
            have hnx' := hkk (some b) (fun hh => nomatch hh) (fun c hc => by cases hc; exact hfresh)
            simp only [cellsOf, List.cons_append, List.nil_append, sdelo] at hnx'
            have hsl : ∀ j o', sget j ((b, AObj.arr i.size (xs.take k ++ ys)) :: sdel b σ) = some o' → sget j (sset b (.arr i.size (xs.take k ++ ys)) σ) = some o' := by
              intro j o' hj
              rw [sget_cons] at hj
              rw [sget_sset]
              by_cases hjb : j = b
              · subst hjb; rw [if_pos rfl] at hj ⊢; rw [hgs]; exact hj
              · rw [if_neg hjb] at hj ⊢; rw [sget_sdel, if_neg hjb] at hj; exact hj
            refine step_ok h hd0 hN hnx (v := .slice (some ⟨b, 0, none⟩) (k + ys.length) cap) (w' := w.setCells b (k * i.size) news) (by rw [ho, hsv, hrun]; rfl) ?_ (hst.le hsl) (hfr0.le hsl) hnx'
            have : (xs.take k ++ ys).length = k + ys.length := by simp; omega
            rw [this]
            exact Rep.own hc'1 hroom (by rw [hc'2]; exact hcs) hcm
          · refine grow (b := some b) (old := xs.take k) (olds := vals.take (k * i.size)) (ad := some ⟨b, 0, none⟩) (cap := cap) (by rw [hlen]; exact hsv) hro hso (fun w' hw => ?_) (by rw [hlen]; omega) ⟨hpre, hkk⟩
            rw [hlen]
            refine run_firstCells_some (P := P) w' i.size k ⟨b, 0, none⟩ k cap _ (by rw [List.length_take, hvl, Nat.min_eq_left (Nat.mul_le_mul_right _ hk)]) (fun j v hj => ?_)
            rw [add_block, Nat.zero_add, cell_heap hw, cells_of_row hh]
            rw [List.getElem?_take] at hj
            split at hj
            · exact hc j v hj
            · cases hj
        · exact hv.elim
      · exact hv.elim
    · exact hv.elim
  · exact hv.elim
end steps
end Go.Ab
namespace Go.Ab
open Go
theorem sset_same {b : Nat} {o : AObj} {σ : Store} (h : sget b σ = some o) : sset b o σ = σ := by
  induction σ with
  | nil => rfl
  | cons p r ih =>
    obtain ⟨c, o'⟩ := p
    rw [sget_cons] at h
    split at h
    · rename_i hbc; subst hbc; cases h; simp [sset]
    · rename_i hbc; simp [sset, hbc, ih h]
section steps
variable {P : Program} {N : Slots} {C : Ctx P N} {env : Env} {σ : Store} {a : Act} {w : World} {S : Nat → Prop} {o : Oper}
variable {Qp : D → Store → Prop} {next K : Env → Store → Prop} {nx : Act → World → Prop}
theorem s_delete (h : Sim C env σ w S a.tmps) (hd0 : a.defers = C.ds) (hN : dstOk N o.dst) (hnx : ∀ a w, NX C next a w → nx a w) {Q : Exit → Act → World → Prop} {T ty : TypeId} {ts : Array TypeId} {m k : D} {mv kv0 : Value} (hm : Rep w S m mv) (hk0 : Rep w S k kv0)
    (ho : (execOp a.eval o).run P w = ((Builtin.delete_ ts ty #[mv, kv0]).run P w).andThen fun v w => .ok (.value v) w) (ht0 : ts[0]? = some T)
    (hv : vcRes P Qp next o.dst env σ (aDelete P σ T m k)) : o.wp P a w nx Q := by
  unfold aDelete at hv
  split at hv
  · rename_i d e kv b hT hkv
    obtain ⟨kt, hT1, hT2⟩ := rmap_eq hT
    have hk := toV_rep hkv hk0
    have hmv := map_inv hm
    split at hv
    · rename_i es hs
      obtain ⟨⟨h1, h2⟩, hk'⟩ := hv
      obtain ⟨hSb, hobj⟩ := h.store b _ hs
      obtain ⟨entries, clock, hh, hr, hke, hborn, hnd⟩ := hobj
      have hlt := (Array.getElem?_eq_some_iff.1 hh).1
      have hget : (getObj b).run P w = .ok (.map entries clock) w := by simp [getObj, Sem.run, hh]
      have main : ∃ ob, (Builtin.delete_ ts ty #[mv, kv0]).run P w = .ok (.tuple #[]) { w with heap := w.heap.setIfInBounds b ob } ∧
          (∀ w' S', Ev w S w' S' → w'.heap[b]? = some ob → RepObj w' S' b (.mp (mdel kv es))) := by
        have hset : ∀ ob, (setObj b ob).run P w = .ok () { w with heap := w.heap.setIfInBounds b ob } := fun ob => by simp [setObj, Sem.run, hh]
        rcases findNow_ok entries.toList es 0 hke hr h2 with ⟨f1, f2, f3, f4⟩ | ⟨j, f, p, f1, f2, f3, f4', f5, f6, f7, f8, f9⟩
        · refine ⟨.map entries clock, ?_, ?_⟩
          · unfold Builtin.delete_
            simp only [ht0, hmv, hk, List.getElem?_toArray, List.getElem?_cons_zero, List.getElem?_cons_succ]
            simp [run_underlying hT1, hget, checkKey_ok _ hT2 h1, findKey_ok hT2 f1, hset]
          · intro w' S' hE hb'
            exact ⟨_, _, hb', by rw [f4]; exact hr.ev hE, by rw [f4]; exact hke, hborn, hnd⟩
        · refine ⟨.map (entries.eraseIdxIfInBounds (0 + j)) clock, ?_, ?_⟩
          · unfold Builtin.delete_
            simp only [ht0, hmv, hk, List.getElem?_toArray, List.getElem?_cons_zero, List.getElem?_cons_succ]
            simp [run_underlying hT1, hget, checkKey_ok _ hT2 h1, findKey_ok hT2 f1, hset]
          · intro w' S' hE hb'
            have hl : (entries.eraseIdxIfInBounds (0 + j)).toList = entries.toList.eraseIdx j := by
              rw [Nat.zero_add]
              unfold Array.eraseIdxIfInBounds
              split
              · simp
              · rename_i hge
                rw [List.eraseIdx_of_length_le (by simpa using hge)]
            have hsub : (entries.toList.eraseIdx j).Sublist entries.toList := List.eraseIdx_sublist ..
            have hr' := hr.ev hE
            refine ⟨_, _, hb', ?_, ?_, ?_, ?_⟩
            · rw [f9, hl, List.eraseIdx_eq_take_drop_succ, List.eraseIdx_eq_take_drop_succ]
              simp only [List.map_append, List.map_take, List.map_drop]
              exact (hr'.take _).append (hr'.drop _)
            · rw [f9, hl, List.eraseIdx_eq_take_drop_succ, List.eraseIdx_eq_take_drop_succ]
              simp only [List.map_append, List.map_take, List.map_drop, hke]
            · intro x hx
              rw [hl] at hx
              exact hborn x (hsub.subset hx)
            · rw [hl]
              exact (hsub.map _).nodup hnd
      obtain ⟨ob, hrun, hrep⟩ := main
      obtain ⟨hfr, hother, hself⟩ := fr_map (σ := σ) (y := .mp (mdel kv es)) (ob := ob) h.fr.lt hs ⟨entries, clock, .inl hh⟩ rfl
      have hE := sim_ev h hfr
      exact step_ok h hd0 hN hnx (v := .tuple #[]) (by rw [ho, hrun]; rfl) (.tup .nil) (store_row h.store hE hother hSb (hrep _ _ hE (hself hlt))) hfr hk'
    · exact hv.elim
  · exact hv.elim
theorem clear_row (h : Sim C env σ w S a.tmps) (hd0 : a.defers = C.ds) (hN : dstOk N o.dst) (hnx : ∀ a w, NX C next a w → nx a w) {Q : Exit → Act → World → Prop} {T e ty : TypeId} {ts : Array TypeId} {n b off k cap : Nat} {z xv : Value} {xs : List D}
    (hT : P.underlying T = some (.slice e)) (hz : rzero P e = some z) (ht0 : ts[0]? = some T) (hxv : xv = .slice (some ⟨b, off * n, none⟩) k cap) (hk0 : 0 < k)
    (ho : (execOp a.eval o).run P w = ((Builtin.clear_ ts ty #[xv]).run P w).andThen fun v w => .ok (.value v) w) (hs : sget b σ = some (.arr n xs)) (hle : off + k ≤ xs.length) (h1 : okV z = true) (h2 : (ofV z).cells.length = n) (h3 : (ofV z).plain = true)
    (hk : next (eputo o.dst (.tup []) env) (sset b (.arr n (xs.take off ++ List.replicate k (ofV z) ++ xs.drop (off + k))) σ)) : o.wp P a w nx Q := by
  subst hxv
  obtain ⟨hSb, hobj⟩ := h.store b _ hs
  obtain ⟨c, e', lo, hi', vals, hh, hr, hc, hsz, hfz⟩ := hobj
  have hzr : Rep w S (ofV z) z := rep_ofV h1
  have hzc := rep_cells hzr h3
  have hzn : z.cells.size = n := by rw [← ofV_size z]; exact h2
  let zs : List Value := ((Array.range (k * n)).map (z.cells[· % z.cells.size]!)).toList
  have hzl : zs.length = k * n := by simp [zs]
  have hzrep : RepL w S (flat (List.replicate k (ofV z))) zs := made_zeros hzc h2
  have hvalsl : vals.length = xs.length * n := by rw [hr.length, flat_length xs n hsz]
  have hcsz : ∀ k, k < vals.length → k < c.size := fun k hk => by
    obtain ⟨v, hv⟩ : ∃ v, vals[k]? = some v := ⟨vals[k], by simp [hk]⟩
    exact (Array.getElem?_eq_some_iff.1 (hc k v hv)).1
  have hend : off * n + k * n ≤ vals.length := by rw [hvalsl, ← Nat.add_mul]; exact Nat.mul_le_mul_right _ hle
  have hcbig : off * n + zs.length ≤ c.size := by
    rw [hzl]
    rcases Nat.eq_zero_or_pos (off * n + k * n) with hz | hz
    · omega
    · have := hcsz (off * n + k * n - 1) (by omega); omega
  have hone : ∀ x ∈ zs, x.oneCell' = true := by
    refine hzrep.one_cell fun d hd => ?_
    have hp := h3
    unfold D.plain at hp
    simp only [Bool.and_eq_true, List.all_eq_true] at hp
    obtain ⟨y, hy, hdy⟩ := List.mem_flatMap.1 hd
    rw [(List.mem_replicate.1 hy).2] at hdy
    exact hp.2 d hdy
  obtain ⟨c', hc'1, hc'2, hc'3⟩ := setCells_heap b e' (lo, hi') zs (off * n) w c hh hcbig
  have hst := run_storeCells_cells (P := P) b (off * n) zs 0 w
    (fun j hj => by
      rw [cells_of_row hh]
      rw [Array.getElem?_eq_getElem (by omega)]; rfl)
    (fun j hj => by
      have : off * n + 0 + j < c.size := by omega
      unfold World.frozen?
      simp only [hh]
      simp; omega)
    hone
  simp only [Nat.add_zero] at hst
  have hother := fun k hk => setCells_other b zs (off * n) w k hk
  obtain ⟨f1, f2, f3, f4⟩ := setCells_fields b zs (off * n) w
  have hsh := shape_row hother hh hc'1 hc'2
  have hfr := fr_row (y := .arr n (xs.take off ++ List.replicate k (ofV z) ++ xs.drop (off + k))) h.fr.lt hs f1 f2 f3 f4 hother hsh
  have hE := sim_ev h hfr
  have hrs : ∀ x ∈ List.replicate k (ofV z), x.cells.length = n := fun x hx => by rw [(List.mem_replicate.1 hx).2]; exact h2
  have hnew : RepObj (w.setCells b (off * n) zs) S b (.arr n (xs.take off ++ List.replicate k (ofV z) ++ xs.drop (off + k))) := by
    refine ⟨c', e', lo, hi', vals.take (off * n) ++ zs ++ vals.drop (off * n + k * n), hc'1, ?_, ?_, ?_, by rw [hc'2]; exact hfz⟩
    · rw [flat_append, flat_append, flat_take xs off hsz, flat_drop xs _ hsz, Nat.add_mul]
      have hr' := hr.ev hE
      exact ((hr'.take _).append (hzrep.ev hE)).append (hr'.drop _)
    · intro j x hj
      rw [hc'3]
      have hvt : (vals.take (off * n)).length = off * n := by simp; omega
      by_cases hj1 : j < off * n
      · rw [List.append_assoc, List.getElem?_append_left (by omega), List.getElem?_take, if_pos hj1] at hj
        rw [if_neg (by omega)]; exact hc j x hj
      · by_cases hj2 : j < off * n + k * n
        · rw [List.append_assoc, List.getElem?_append_right (by omega), hvt, List.getElem?_append_left (by omega)] at hj
          rw [if_pos (by omega)]; exact hj
        · rw [List.getElem?_append_right (by simp; omega), List.getElem?_drop] at hj
          simp only [List.length_append, hvt, hzl] at hj
          rw [if_neg (by omega)]
          rw [show off * n + k * n + (j - (off * n + k * n)) = j by omega] at hj
          exact hc j x hj
    · intro x hx
      rcases List.mem_append.1 hx with hx | hx
      · rcases List.mem_append.1 hx with hx | hx
        · exact hsz x (List.mem_of_mem_take hx)
        · exact hrs x hx
      · exact hsz x (List.mem_of_mem_drop hx)
  refine step_ok h hd0 hN hnx (v := .tuple #[]) ?_ (.tup .nil) (store_row h.store hE hother hSb hnew) hfr hk
  rw [ho]
  unfold Builtin.clear_
  have hk1 : ∃ m, k = m + 1 := ⟨k - 1, by omega⟩
  obtain ⟨m, rfl⟩ := hk1
  have hzz : (Builtin.zeroCells z.cells (m + 1)).toList = zs := by simp only [Builtin.zeroCells, zs, hzn]
  simp only [ht0, List.getElem?_toArray, List.getElem?_cons_zero, Sem.run_bind, run_underlying hT, Result.andThen_ok, run_zeroValue hz, hzz, hst, Sem.run_pure]
theorem s_clear (h : Sim C env σ w S a.tmps) (hd0 : a.defers = C.ds) (hN : dstOk N o.dst) (hnx : ∀ a w, NX C next a w → nx a w) {Q : Exit → Act → World → Prop} {T ty : TypeId} {ts : Array TypeId} {x : D} {xv : Value} (hx : Rep w S x xv)
    (ho : (execOp a.eval o).run P w = ((Builtin.clear_ ts ty #[xv]).run P w).andThen fun v w => .ok (.value v) w) (ht0 : ts[0]? = some T)
    (hv : vcRes P Qp next o.dst env σ (aClear P σ T x)) : o.wp P a w nx Q := by
  unfold aClear at hv
  have nothing : ∀ {e : TypeId} {ad : Option Addr} {cap : Nat} {σ' : Store}, P.underlying T = some (.slice e) → xv = .slice ad 0 cap → σ' = σ → next (eputo o.dst (.tup []) env) σ' → o.wp P a w nx Q := by
    intro e ad cap σ' hT hxe hσ hk
    subst hxe hσ
    refine step_ok h hd0 hN hnx (v := .tuple #[]) ?_ (.tup .nil) h.store (Fr.refl _ h.fr.lt) hk
    rw [ho]
    unfold Builtin.clear_
    cases ad <;> simp [ht0, run_underlying hT]
  split at hv
  · rename_i e he
    have hT := relem_eq he
    split at hv
    · rename_i n z sz k hn hz
      obtain ⟨ad, hxe, rfl⟩ := own0_inv hx
      exact nothing hT hxe rfl hv.2
    · rename_i n z b sz k hn hz
      split at hv
      · rename_i sz' xs hs
        obtain ⟨⟨rfl, rfl, hle, h1, h2, h3⟩, hk⟩ := hv
        obtain ⟨cap, c, e', fr, hxe, hcap, hh, hcs⟩ := own_inv hx
        rcases Nat.eq_zero_or_pos k with rfl | hk0
        · refine nothing hT hxe ?_ hk
          simp only [List.replicate_zero, List.nil_append, List.drop_zero]
          exact sset_same hs
        · exact clear_row h hd0 hN hnx (off := 0) hT hz ht0 (by rw [hxe, Nat.zero_mul]) hk0 ho hs (by omega) h1 h2 h3 (by simpa using hk)
      · exact hv.elim
    · rename_i n z b sz off k hn hz
      split at hv
      · rename_i sz' xs hs
        obtain ⟨⟨rfl, rfl, hle, h1, h2, h3⟩, hk⟩ := hv
        rcases Nat.eq_zero_or_pos k with rfl | hk0
        · have hxe : ∃ ad cap, xv = .slice ad 0 cap := by
            cases hx with
            | win0 => exact ⟨_, _, rfl⟩
            | win => exact ⟨_, _, rfl⟩
          obtain ⟨ad, cap, hxe⟩ := hxe
          refine nothing hT hxe ?_ hk
          rw [List.replicate_zero, List.append_nil, Nat.add_zero, List.take_append_drop]
          exact sset_same hs
        · obtain ⟨cap, hxe⟩ := win_pos hx hk0
          exact clear_row h hd0 hN hnx hT hz ht0 hxe hk0 ho hs hle h1 h2 h3 hk
      · exact hv.elim
    · exact hv.elim
  · exact hv.elim
theorem s_panic (h : Sim C env σ w S a.tmps) (hd0 : a.defers = C.ds) {d : D} {v : Value} (hv : Rep w S d v) (hrun : (execOp a.eval o).run P w = .halt (.panic v) w) (hq : Qp d σ) : o.wp P a w nx (QX C K Qp) := by
  unfold Oper.wp
  rw [hrun, Oper.upon_panic]
  exact ⟨hd0, h.size, d, σ, S, v, rfl, hq, hv, h.store, h.fr⟩
theorem s_enter (h : Sim C env σ w S a.tmps) (hd0 : a.defers = C.ds) (hN : dstOk N o.dst) (hnx : ∀ a w, NX C next a w → nx a w) {g : FuncId} {args : List D} {vs : List Value} (hr : RepL w S args vs)
    (hrun : (execOp a.eval o).run P w = .ok (.enter g vs.toArray) w) (hc : AC P g args σ fun e σ' => match e with | .ret d => next (eputo o.dst d env) σ' | .panic d => Qp d σ') : o.wp P a w nx (QX C K Qp) := by
  unfold Oper.wp
  rw [hrun, Oper.upon_enter]
  refine (hc w S vs h.sok h.store hr).mono ?_
  rintro e w' ⟨ae, σ', S', hq, hend, hst, hfr⟩
  cases ae with
  | ret d =>
    cases e with
    | returned v => exact hnx _ _ ⟨by rw [put_defers]; exact hd0, _, _, _, hq, sim_put h hN hend hst hfr⟩
    | panicked chain => exact hend.elim
    | outgrown => exact hend.elim
  | panic d =>
    cases e with
    | returned v => exact hend.elim
    | panicked chain =>
      obtain ⟨v, rfl, hrep⟩ := hend
      exact ⟨hd0, h.size, d, σ', S', v, rfl, hq, hrep, hst, h.fr.trans hfr⟩
    | outgrown => exact hend.elim
theorem two_args {xs : Array Operand} {dx dy : D} (h : xs.toList.map (ev env) = [dx, dy]) : ∃ x y, xs = #[x, y] ∧ ev env x = dx ∧ ev env y = dy := by
  obtain ⟨l⟩ := xs
  simp only [] at h
  match l, h with
  | [x, y], h => simp at h; exact ⟨x, y, rfl, h.1, h.2⟩
theorem one_arg {xs : Array Operand} {dx : D} (h : xs.toList.map (ev env) = [dx]) : ∃ x, xs = #[x] ∧ ev env x = dx := by
  obtain ⟨l⟩ := xs
  simp only [] at h
  match l, h with
  | [x], h => simp at h; exact ⟨x, rfl, h⟩
theorem op_sound (h : Sim C env σ w S a.tmps) (hd0 : a.defers = C.ds) (hN : dstOk N o.dst) (hnx : ∀ a w, NX C next a w → nx a w) (hv : vcRes P Qp next o.dst env σ (aop P env σ o.op)) : o.wp P a w nx (QX C K Qp) := by
  cases hop : o.op <;> rw [hop] at hv
  case move x => exact s_move h hd0 hN hnx (.inl hop) hv
  case assign x => exact s_move h hd0 hN hnx (.inr hop) hv
  case pick c x y => exact s_pick h hd0 hN hnx hop hv
  case alloc T => exact s_alloc h hd0 hN hnx hop hv
  case box T x => exact s_box h hd0 hN hnx hop hv
  case build T ps => exact s_build h hd0 hN hnx hop hv
  case buildSlice T len ps => exact s_buildSlice h hd0 hN hnx hop hv
  case load T x => exact s_load h hd0 hN hnx hop hv
  case store T x y => exact s_store h hd0 hN hnx hop hv
  case nilCheck x => exact s_nilCheck h hd0 hN hnx hop hv
  case binOp op T x y T2 => exact s_binOp h hd0 hN hnx hop hv
  case unOp op T x => exact s_unOp h hd0 hN hnx hop hv
  case convert src dst x => exact s_convert h hd0 hN hnx hop hv
  case makeInterface T x => exact s_makeInterface h hd0 hN hnx hop hv
  case makeFunc fn f c => exact s_makeFunc h hd0 hN hnx hop hv
  case makeMap T r =>
    cases r with
    | none => exact s_makeMap h hd0 hN hnx hop hv
    | some r => exact hv.elim
  case makeSlice T x y => exact s_makeSlice h hd0 hN hnx hop hv
  case makeChan T x => exact s_makeChan h hd0 hN hnx hop hv
  case slice T x lo hi mx =>
    have hv' : vcRes P Qp next o.dst env σ (aSliceS P σ T (ev env x) (lo.map (ev env)) (hi.map (ev env)) (mx.map (ev env))) := hv
    unfold aSliceS at hv'
    split at hv'
    · rename_i b sz j i hd
      exact s_sliceArr h hd0 hN hnx hop hd hv'
    · exact s_slice h hd0 hN hnx hop hv'
  case fieldAddr T x f => exact s_fieldAddr h hd0 hN hnx hop hv
  case field T x f => exact s_field h hd0 hN hnx hop hv
  case indexAddr T x y => exact s_indexAddr h hd0 hN hnx hop hv
  case index T x y => exact s_index h hd0 hN hnx hop hv
  case lookup T x y ok => exact s_lookup h hd0 hN hnx hop hv
  case mapUpdate T m k x => exact s_mapUpdate h hd0 hN hnx (.inl hop) hv
  case insert T m k x => exact s_mapUpdate h hd0 hN hnx (.inr hop) hv
  case range T x => exact s_range h hd0 hN hnx hop hv
  case next x b => exact s_next h hd0 hN hnx hop hv
  case typeAssert x T' T ok => exact s_typeAssert h hd0 hN hnx hop hv
  case extract x i => exact s_extract h hd0 hN hnx hop hv
  case panic x =>
    simp only [aop] at hv
    split at hv
    · rename_i t d hd
      have hx := ev_rep h x
      rw [hd] at hx
      refine s_panic (K := K) h hd0 hx ?_ hv
      generalize hxe : a.eval x = xv at hx
      cases hx with
      | ifc hx => simp [execOp, hop, hxe, Instr.panic]
    · exact hv.elim
  case call c =>
    simp only [aop] at hv
    split at hv
    · rename_i b hb
      have hargs := ev_reps h c.args.toList
      have hrun : ∀ {s : Sem Value} {vs : Array Value}, c.args.map a.eval = vs → (∀ cs, builtin b c.argTypes o.type cs vs = (do pure (.value (← s)))) → (execOp a.eval o).run P w = (s.run P w).andThen fun v w => .ok (.value v) w := by
        intro s vs hvs hbs
        simp only [execOp, hop, resolve, hb, hvs, Sem.run_bind, Sem.run_pure, Result.andThen_ok, invoke, hbs]
      unfold aBuiltin at hv
      split at hv
      · rename_i x hxs
        obtain ⟨xo, hxa, hxe⟩ := one_arg hxs
        split at hv
        · rename_i T hT
          refine s_len (Qp := Qp) h hd0 hN hnx (ev_rep h xo) (hrun (by rw [hxa]; simp) (fun _ => rfl)) hT ?_
          rw [hxe]; exact hv
        · exact hv.elim
      · rename_i s x hxs
        obtain ⟨so, xo, hxa, hse, hxe⟩ := two_args hxs
        split at hv
        · rename_i T T2 hT hT2
          refine s_append (Qp := Qp) h hd0 hN hnx (ev_rep h so) (ev_rep h xo) (hrun (by rw [hxa]; simp) (fun _ => rfl)) hT hT2 ?_
          rw [hxe, hse]; exact hv
        · exact hv.elim
      · rename_i m k hxs
        obtain ⟨so, xo, hxa, hse, hxe⟩ := two_args hxs
        split at hv
        · rename_i T hT
          refine s_delete (Qp := Qp) h hd0 hN hnx (ev_rep h so) (ev_rep h xo) (hrun (by rw [hxa]; simp) (fun _ => rfl)) hT ?_
          rw [hxe, hse]; exact hv
        · exact hv.elim
      · rename_i x y hxs
        obtain ⟨so, xo, hxa, hse, hxe⟩ := two_args hxs
        split at hv
        · rename_i u v hu hv'
          obtain ⟨d, z, hr, hrep, hk⟩ := scal_ok hv w S
          refine step_val h hd0 hN hnx (v := z) ?_ hrep hk
          rw [hrun (s := Builtin.max_ #[] 0 #[u, v]) (vs := #[u, v]) (by rw [hxa]; simp [toV_rep hu (hse ▸ ev_rep h so), toV_rep hv' (hxe ▸ ev_rep h xo)]) (fun _ => rfl), hr]
          rfl
        · exact hv.elim
      · rename_i x y hxs
        obtain ⟨so, xo, hxa, hse, hxe⟩ := two_args hxs
        split at hv
        · rename_i u v hu hv'
          obtain ⟨d, z, hr, hrep, hk⟩ := scal_ok hv w S
          refine step_val h hd0 hN hnx (v := z) ?_ hrep hk
          rw [hrun (s := Builtin.min_ #[] 0 #[u, v]) (vs := #[u, v]) (by rw [hxa]; simp [toV_rep hu (hse ▸ ev_rep h so), toV_rep hv' (hxe ▸ ev_rep h xo)]) (fun _ => rfl), hr]
          rfl
        · exact hv.elim
      · rename_i t x hxs
        obtain ⟨xo, hxa, hxe⟩ := one_arg hxs
        have hx := ev_rep h xo
        rw [hxe] at hx
        refine s_panic (K := K) h hd0 hx ?_ hv
        generalize hxv : a.eval xo = xv at hx
        cases hx with
        | ifc hx =>
          rename_i xv'
          rw [hrun (s := Instr.panic (.iface t xv')) (vs := #[.iface t xv']) (by rw [hxa]; simp [hxv]) (fun _ => rfl)]
          simp [Instr.panic]
      · rename_i x hxs
        obtain ⟨xo, hxa, hxe⟩ := one_arg hxs
        split at hv
        · rename_i T hT
          refine s_clear (Qp := Qp) h hd0 hN hnx (ev_rep h xo) (hrun (by rw [hxa]; simp) (fun _ => rfl)) hT ?_
          rw [hxe]; exact hv
        · exact hv.elim
      · exact hv.elim
    · rename_i f hf
      split at hv
      · rename_i g first caps hd
        obtain ⟨g', hg', hc⟩ := hv
        have hfr := ev_rep h f
        rw [hd] at hfr
        generalize hfe : a.eval f = fv at hfr
        cases hfr with
        | clo hf1 hc1 =>
          rename_i fv cv
          refine s_enter (K := K) h hd0 hN hnx ((hf1.append (ev_reps h c.args.toList)).append hc1) ?_ hc
          simp only [execOp, hop, resolve, hf, hfe, Deferred.ofValue, Sem.run_bind, Sem.run_pure, Result.andThen_ok, invoke]
          rw [hg']
          congr 2
          apply Array.ext'
          simp
      · exact hv.elim
    · exact hv.elim
  all_goals exact hv.elim
end steps
def dsts (ops : Array Oper) : List (Option Nat) := ops.toList.map (·.dst)
def gd (env : Env) (ds : List (Option Nat)) (j : Nat) : D :=
  match ds[j]? with
  | some (some d) => eget d env
  | _ => .any
def gset (env : Env) (ds : List (Option Nat)) (j : Nat) (b : Bool) : Env :=
  match ds[j]? with
  | some (some d) => eput d (.v (.bool b)) env
  | _ => env
def lkFree : List (Nat × Value) → Nat → Prop
  | [], _ => True
  | p :: r, k => p.1 ≠ k ∧ lkFree r k
theorem lkFree_ok : ∀ {l : List (Nat × Value)} {k : Nat}, lkFree l k → ∀ p ∈ l, p.1 ≠ k
  | [], _, _, p, hp => by simp at hp
  | q :: r, k, h, p, hp => by
    rcases List.mem_cons.1 hp with rfl | hp
    · exact h.1
    · exact lkFree_ok h.2 p hp
def dstB (N : Slots) (dst : Option Nat) : Prop := match dst with | some k => k < N.n ∧ lkFree N.lk k | none => True
def vcL (P : Program) (N : Slots) (ds : List (Option Nat)) (K : Env → Store → Prop) (Qp : D → Store → Prop) : List Oper → Env → Store → Prop
  | [], env, σ => K env σ
  | o :: rest, env, σ =>
    dstB N o.dst ∧
    match o.guard with
    | none => vcRes P Qp (vcL P N ds K Qp rest) o.dst env σ (aop P env σ o.op)
    | some (j, want) =>
      match gd env ds j with
      | .v (.bool t) =>
        (t = want → vcRes P Qp (vcL P N ds K Qp rest) o.dst (gset env ds j want) σ (aop P (gset env ds j want) σ o.op)) ∧
        (t = !want → vcL P N ds K Qp rest (eputo o.dst (.tup []) (gset env ds j (!want))) σ)
      | .tup [] => vcL P N ds K Qp rest (eputo o.dst (.tup []) env) σ
      | _ => False
section region
variable {P : Program} {N : Slots} {C : Ctx P N} {K : Env → Store → Prop} {Qp : D → Store → Prop}
theorem dstB_ok {N : Slots} {dst : Option Nat} (h : dstB N dst) : dstOk N dst := fun k hk => by subst hk; exact ⟨h.1, lkFree_ok h.2⟩
theorem RepEnv.gset {w : World} {S : Nat → Prop} {env : Env} {tmps : Array Value} {ds : List (Option Nat)} {j : Nat} {t : Bool} (h : RepEnv w S env tmps) (hg : gd env ds j = .v (.bool t)) : RepEnv w S (gset env ds j t) tmps := by
  unfold gd at hg
  unfold Ab.gset
  split at hg
  · rename_i d hd
    intro k
    show Rep w S (eget k (eput d (.v (.bool t)) env)) _
    rw [eget_eput]
    by_cases hk : k = d
    · subst hk; rw [if_pos rfl, ← hg]; exact h k
    · rw [if_neg hk]; exact h k
  · cases hg
theorem yielded_eq {w : World} {S : Nat → Prop} {env : Env} {ops : Array Oper} {j : Nat} {t : Bool} {tmps : Array Value} (h : RepEnv w S env tmps) (hg : gd env (dsts ops) j = .v (.bool t)) : yielded ops tmps j = some t := by
  unfold gd at hg
  split at hg
  · rename_i d hd
    have hd' : (ops[j]?).bind (·.dst) = some d := by
      unfold dsts at hd
      simp only [List.getElem?_map, Array.getElem?_toList, Option.map_eq_some_iff] at hd
      obtain ⟨o, ho, hod⟩ := hd
      rw [ho]; exact hod
    have hr := h d
    rw [hg] at hr
    have hlt : d < tmps.size := by
      rcases Nat.lt_or_ge d tmps.size with h1 | h1
      · exact h1
      · have := hr.v_inv
        rw [Array.getD_eq_getD_getElem?, Array.getElem?_eq_none h1] at this
        exact absurd this (by simp [undef])
    unfold yielded
    rw [hd']
    have he : tmps[d]? = some (.bool t) := by
      have := hr.v_inv
      rw [Array.getD_eq_getD_getElem?] at this
      rw [Array.getElem?_eq_getElem hlt] at this ⊢
      simpa using this
    simp [he]
  · cases hg
theorem yielded_none {w : World} {S : Nat → Prop} {env : Env} {ops : Array Oper} {j : Nat} {tmps : Array Value} (h : RepEnv w S env tmps) (hg : gd env (dsts ops) j = .tup []) : yielded ops tmps j = none := by
  unfold gd at hg
  split at hg
  · rename_i d hd
    have hd' : (ops[j]?).bind (·.dst) = some d := by
      unfold dsts at hd
      simp only [List.getElem?_map, Array.getElem?_toList, Option.map_eq_some_iff] at hd
      obtain ⟨o, ho, hod⟩ := hd
      rw [ho]; exact hod
    have hr := h d
    rw [hg] at hr
    unfold yielded
    rw [hd']
    have hv : tmps.getD d undef = .tuple #[] := by
      generalize tmps.getD d undef = v at hr
      cases hr with
      | tup hr => rw [hr.nil_inv]
    rw [Array.getD_eq_getD_getElem?] at hv
    show (match tmps[d]? with | some (.bool b) => some b | _ => none) = none
    cases ht : tmps[d]? with
    | none => rfl
    | some x => rw [ht] at hv; simp at hv; subst hv; rfl
  · cases hg
theorem vcL_sound {ops : Array Oper} : ∀ (l : List Oper) (env : Env) (σ : Store) (a : Act) (w : World) (S : Nat → Prop), vcL P N (dsts ops) K Qp l env σ → a.defers = C.ds → Sim C env σ w S a.tmps → wpList P ops (QX C K Qp) l a w
  | [], env, σ, a, w, S, h, hd, hs => ⟨hd, env, σ, S, h, hs⟩
  | o :: rest, env, σ, a, w, S, h, hd, hs => by
    obtain ⟨hN, h⟩ := h
    have hN' := dstB_ok hN
    simp only [wpList]
    have hnx : ∀ a w, NX C (vcL P N (dsts ops) K Qp rest) a w → wpList P ops (QX C K Qp) rest a w := fun a w ⟨hd, env', σ', S', hn, hs'⟩ => vcL_sound rest env' σ' a w S' hn hd hs'
    cases hg : o.guard with
    | none =>
      rw [hg] at h
      have hw : Region.wanted o (yielded ops a.tmps) = true := by simp [Region.wanted, hg]
      rw [if_pos hw]
      exact .inl (op_sound hs hd hN' hnx h)
    | some p =>
      obtain ⟨j, want⟩ := p
      rw [hg] at h
      dsimp only at h
      split at h
      · rename_i t ht
        obtain ⟨h1, h2⟩ := h
        have hy := yielded_eq hs.env ht
        have hw : Region.wanted o (yielded ops a.tmps) = (t == want) := by simp [Region.wanted, hg, hy]
        have hs' : ∀ b, t = b → Sim C (gset env (dsts ops) j b) σ w S a.tmps := fun b hb => by subst hb; exact ⟨hs.env.gset ht, hs.store, hs.fr, hs.size⟩
        by_cases htw : t = want
        · rw [if_pos (by rw [hw, htw]; simp)]
          exact .inl (op_sound (hs' _ htw) hd hN' hnx (h1 htw))
        · have htw' : t = !want := by cases t <;> cases want <;> simp_all
          rw [if_neg (by rw [hw]; simpa using htw)]
          refine vcL_sound rest _ σ _ w S (h2 htw') (by rw [put_defers]; exact hd) (sim_put (hs' _ htw') hN' (.tup .nil) hs.store (Fr.refl σ hs.fr.lt))
      · rename_i ht
        have hy := yielded_none hs.env ht
        have hw : Region.wanted o (yielded ops a.tmps) = false := by simp [Region.wanted, hg, hy]
        rw [if_neg (by rw [hw]; simp)]
        exact vcL_sound rest _ σ _ w S h (by rw [put_defers]; exact hd) (sim_put hs hN' (.tup .nil) hs.store (Fr.refl σ hs.fr.lt))
      · exact h.elim
def rebase (keep : List Nat) (env : Env) : Env := keep.map fun k => (k, eget k env)
theorem eget_rebase (keep : List Nat) (env : Env) (k : Nat) : eget k (rebase keep env) = if k ∈ keep then eget k env else .any := by
  induction keep with
  | nil => rfl
  | cons j r ih =>
    show (if k = j then eget j env else eget k (rebase r env)) = _
    by_cases hk : k = j
    · subst hk; simp
    · rw [if_neg hk, ih]; simp [hk]
theorem ele_rebase (keep : List Nat) (env : Env) : ELe (rebase keep env) env := fun k => by
  rw [eget_rebase]
  by_cases hk : k ∈ keep
  · rw [if_pos hk]; exact .inr rfl
  · rw [if_neg hk]; exact .inl rfl
theorem Gs.rebase {todo : List Item} {env : Env} {σ : Store} (keep : List Nat) (h : Gs C todo (rebase keep env) σ) : Gs C todo env σ := h.le (ele_rebase keep env) (SLe.refl σ)
def ndB (ops : Array Oper) : Bool := ops.toList.all fun o => match o.op with | .defer _ => false | _ => true
theorem ndB_op {ops : Array Oper} (h : ndB ops = true) {i : Nat} {o : Oper} (ho : ops[i]? = some o) : ∀ c, o.op ≠ .defer c := by
  intro c hc
  have := List.all_eq_true.1 h o (by
    obtain ⟨hi, rfl⟩ := Array.getElem?_eq_some_iff.1 ho
    exact Array.getElem_mem_toList hi)
  rw [hc] at this
  cases this
theorem op_run {k : List Item} {ops : Array Oper} {o : Oper} {i : Nat} {rest : List Nat} {a : Act} {w : World} (ho : ops[i]? = some o) (hw : Region.wanted o (yielded ops a.tmps) = true) (hnd : ∀ c, o.op ≠ .defer c)
    (h : o.wp P a w (fun a' w' => C.Z (lone (C.b.atR a' (.inRegion ops rest :: k)) C.cs w')) (QX C (Gs C k) (Pan C))) :
    C.Z (lone (C.b.atR a (.inRegion ops (i :: rest) :: k)) C.cs w) := by
  have hst := stepGR_op (P := P) (b := C.b) (k := k) (cs := C.cs) (w := w) (rest := rest) ho hw
  rw [Oper.semAt_eq _ _ _ hnd] at hst
  have hfin : ∀ v, (C.b.atR a (.inRegion ops (i :: rest) :: k)).finish v = C.b.atR (a.put o.dst v) (.inRegion ops rest :: k) := by
    intro v; rw [Frame.finish_atR, ho]; rfl
  have hpan : ∀ {chain : List PanicEntry} {w' : World}, QX C (Gs C k) (Pan C) (.panic chain) a w' → C.Z (lone { C.b.atR a (.inRegion ops (i :: rest) :: k) with mode := .panicking chain } C.cs w') := by
    rintro chain w' ⟨hd, hsz, d, σ', S', v, rfl, hp, hrep, hst', hfr⟩
    exact hp a _ w' S' v hd hrep hst' hfr hsz
  simp only [Oper.wp, Oper.upon] at h
  split at h
  · rename_i v w' hr
    refine C.hZ _ _ (.one (step_lone_go ?_)) h
    rw [hst, ← hfin]; simp [stepG.apply, hr]
  · rename_i w' hr
    refine C.hZ _ _ (.one (step_lone_go ?_)) h
    rw [hst, ← hfin]; simp [stepG.apply, hr]
  · rename_i d w' hr
    refine C.hZ _ _ (.one (step_lone_go ?_)) h
    have : ({ C.b.atR a (.inRegion ops (i :: rest) :: k) with defers := d :: a.defers } : Frame).finish undef = C.b.atR ({ a with defers := d :: a.defers }.put o.dst undef) (.inRegion ops rest :: k) := by
      have := Frame.finish_atR C.b { a with defers := d :: a.defers } ops i rest k undef
      rw [ho] at this; exact this
    rw [hst]; simp only [stepG.apply, Sem.runT_eq, hr, GStep.bare_after]
    exact congrArg (fun fr => GStep.go { frame := fr, callers := C.cs, status := .running, dying := none } w') this
  · rename_i f args w' hr
    obtain ⟨e, w'', fr, hR, hsteps, _, hleave⟩ := h (C.b.atR a (.inRegion ops (i :: rest) :: k) :: C.cs)
    have henter : step P (lone (C.b.atR a (.inRegion ops (i :: rest) :: k)) C.cs w) = .next (lone (Frame.enter P f args .normal) (C.b.atR a (.inRegion ops (i :: rest) :: k) :: C.cs) w') :=
      step_lone_go (by rw [hst]; simp [stepG.apply, hr, Frame.atR])
    cases e with
    | returned v =>
      refine C.hZ _ _ (.head henter (hsteps.trans (.one ?_))) hR
      rw [← hfin]; exact step_leave_returned hleave
    | panicked chain =>
      refine C.hZ _ _ (.head henter (hsteps.trans (.one ?_))) (hpan hR)
      rw [← Frame.raise_atR]; exact step_leave_panicked hleave
    | outgrown =>
      obtain ⟨a₀, w₀, hq⟩ := hR
      exact hq.elim
  · rename_i row args w' hr
    obtain ⟨v, w'', hR, hsteps⟩ := h (C.b.atR a (.inRegion ops (i :: rest) :: k)) C.cs
    have henter : step P (lone (C.b.atR a (.inRegion ops (i :: rest) :: k)) C.cs w) = .next (lone (Frame.ofRow P row args .normal) (C.b.atR a (.inRegion ops (i :: rest) :: k) :: C.cs) w') :=
      step_lone_go (by rw [hst]; simp [stepG.apply, hr, Frame.atR])
    refine C.hZ _ _ (.head henter ?_) hR
    rw [← hfin]; exact hsteps
  · rename_i v w' hr
    refine C.hZ _ _ (.one (step_lone_go ?_)) (hpan h)
    rw [hst, ← Frame.raise_atR]; simp [stepG.apply, hr]
  · exact h.elim
theorem ops_run {k : List Item} {ops : Array Oper} (hnd : ndB ops = true) : ∀ (l : List Nat) (a : Act) (w : World), wpOps P ops (QX C (Gs C k) (Pan C)) l a w → C.Z (lone (C.b.atR a (.inRegion ops l :: k)) C.cs w)
  | [], a, w, h => by
    obtain ⟨hd, env', σ', S', hk, hs⟩ := h
    exact C.hZ _ _ (.one stepR_region_end) (hk a w S' hd hs)
  | i :: rest, a, w, h => by
    simp only [wpOps] at h
    cases ho : ops[i]? with
    | none =>
      simp only [ho] at h
      have hs := stepR_op_skip (P := P) (b := C.b) (a := a) (k := k) (cs := C.cs) (w := w) (ops := ops) (i := i) (rest := rest) (by simp [ho])
      simp only [ho, Option.bind_none, Act.put] at hs
      exact C.hZ _ _ (.one hs) (ops_run hnd rest a w h)
    | some o =>
      simp only [ho] at h
      by_cases hw : Region.wanted o (yielded ops a.tmps) = true
      · simp only [hw, if_true] at h
        rcases h with h | ⟨_, a₀, w₀, hq⟩
        · exact op_run ho hw (ndB_op hnd ho) (Oper.wp_mono (fun a' w' h' => ops_run hnd rest a' w' h') h)
        · exact hq.elim
      · simp only [hw, if_false, Bool.false_eq_true] at h
        have hs := stepR_op_skip (P := P) (b := C.b) (a := a) (k := k) (cs := C.cs) (w := w) (ops := ops) (i := i) (rest := rest) (by simp [ho]; simpa using hw)
        simp only [ho, Option.bind_some] at hs
        exact C.hZ _ _ (.one hs) (ops_run hnd rest _ w h)
theorem Gs.rg {id : Nat} {ops : Array Oper} {k : List Item} {env : Env} {σ : Store} (keep : List Nat)
    (h : ∀ K : Env → Store → Prop, (∀ env σ, Gs C k env σ → K env σ) → vcL P N (dsts ops) K (Pan C) ops.toList (Ab.rebase keep env) σ) (hnd : ndB ops = true := by kernel_rfl) : Gs C (.code (.region id ops false) :: k) env σ := by
  intro a w S hd hs
  have hv := h (Gs C k) (fun _ _ h => h)
  have hs' : Sim C (Ab.rebase keep env) σ w S a.tmps := ⟨hs.env.le (ele_rebase keep env), hs.store, hs.fr, hs.size⟩
  have hl := vcL_sound ops.toList _ σ a w S hv hd hs'
  have heq := wpOps_eq_wpList (P := P) (ops := ops) (Q := QX C (Gs C k) (Pan C)) ops.toList 0 (fun j => by simp)
  have : wpOps P ops (QX C (Gs C k) (Pan C)) (List.range ops.size) a w := by
    rw [List.range_eq_range', show ops.size = ops.toList.length by simp, heq]; exact hl
  exact C.hZ _ _ (.one stepR_region) (ops_run hnd _ a w this)
end region
def EndOk (P : Program) (f : FuncId) (w0 : World) (S0 : Nat → Prop) (σ0 : Store) (R : AEnd → Store → Prop) (cs : List Frame) (m : Machine) : Prop :=
  ∃ e w' fr, (∃ ae σ' S', R ae σ' ∧ RepEnd w' S' ae e ∧ RepStore w' S' σ' ∧ Fr w0 S0 (sdom σ0) w' S' σ') ∧ Comes P m (lone fr cs w') e ∧ fr.fn = f ∧ fr.leaving P w' e
def Ctx.call (P : Program) (N : Slots) (f : FuncId) (w0 : World) (S0 : Nat → Prop) (σ0 : Store) (hS : SOk w0 S0) (hst : RepStore w0 S0 σ0) (R : AEnd → Store → Prop) (cs : List Frame) : Ctx P N where
  b := { (default : Frame) with fn := f, kind := .normal }
  cs := cs
  ds := []
  w0 := w0
  S0 := S0
  F := sdom σ0
  Z := EndOk P f w0 S0 σ0 R cs
  hZ := fun m m' hs ⟨e, w', fr, h1, h2, h3⟩ => ⟨e, w', fr, h1, Comes.of_steps hs h2, h3⟩
  hS := fun b hb => ⟨hS.lt b hb, fun hd => by
    cases hs : sget b σ0 with
    | none => exact hd hs
    | some o => exact (hst b o hs).1 hb⟩
  hG := hS.g
structure IsCall {P : Program} {N : Slots} (C : Ctx P N) (f : FuncId) (R : AEnd → Store → Prop) : Prop where
  ex : ∃ w0 S0 σ0 hS hst cs, C = Ctx.call P N f w0 S0 σ0 hS hst R cs
def initEnv (args : List D) : Env := args.zipIdx.map fun p => (p.2, p.1)
theorem eget_initEnv (args : List D) (k : Nat) : eget k (initEnv args) = args.getD k .any := by
  have : ∀ (l : List D) (j k : Nat), eget k ((l.zipIdx j).map fun p => (p.2, p.1)) = if j ≤ k then l.getD (k - j) .any else .any := by
    intro l
    induction l with
    | nil => intro j k; simp [eget]
    | cons x l ih =>
      intro j k
      simp only [List.zipIdx_cons, List.map_cons, eget]
      by_cases hk : k = j
      · subst hk; simp
      · rw [if_neg hk, ih]
        by_cases hjk : j ≤ k
        · rw [if_pos (by omega), if_pos hjk, show k - j = (k - (j + 1)) + 1 by omega, List.getD_cons_succ]
        · rw [if_neg (by omega), if_neg hjk]
  have h := this args 0 k
  simpa [initEnv] using h
theorem AC.of_body {P : Program} {f : FuncId} {fn : Func} {c : Code} {N : Nat} {args : List D} {σ : Store} {R : AEnd → Store → Prop} (hf : P.funcs[f]? = some fn) (hb : fn.body = some c) (hN : fn.ntmps = N) (hargs : args.length ≤ N)
    (h : ∀ C : Ctx P ⟨N, []⟩, IsCall C f R → Gs C [.code c] (initEnv args) σ) : AC P f args σ R := by
  intro w S vs hS hst hr cs
  have hC := h (Ctx.call P ⟨N, []⟩ f w S σ hS hst R cs) ⟨_, _, _, _, _, _, rfl⟩
  have hlen := hr.length
  have hsim : Sim (Ctx.call P ⟨N, []⟩ f w S σ hS hst R cs) (initEnv args) σ w S (vs.toArray ++ Array.replicate (fn.ntmps - vs.toArray.size) undef) := by
    refine ⟨fun k => ?_, hst, Fr.refl σ hS.lt, by simp; omega, fun p hp => by simp at hp⟩
    rw [eget_initEnv]
    by_cases hk : k < args.length
    · rw [getD_lt _ _ _ hk]
      obtain ⟨v, hv, hrep⟩ := hr.get k args[k] (by simp)
      have hkv : k < vs.length := by omega
      rw [Array.getD_eq_getD_getElem?, Array.getElem?_append_left (by simpa using hkv)]
      simp only [List.getElem?_toArray, hv, Option.getD_some]
      exact hrep
    · rw [List.getD_eq_getElem?_getD, List.getElem?_eq_none (by omega)]
      exact .any
  have hz := hC { tmps := vs.toArray ++ Array.replicate (fn.ntmps - vs.toArray.size) undef, defers := [] } w S rfl hsim
  have henter : Frame.enter P f vs.toArray .normal = ({ (default : Frame) with fn := f, kind := .normal } : Frame).atR { tmps := vs.toArray ++ Array.replicate (fn.ntmps - vs.toArray.size) undef, defers := [] } [.code c] := by
    simp [Frame.enter, Frame.atR, hf, hb]; rfl
  rw [henter]
  obtain ⟨e, w', fr, ⟨ae, σ', S', h1, h2, h3, h4⟩, hcomes, hfn, hl⟩ := hz
  exact ⟨e, w', fr, ⟨ae, σ', S', h1, h2, h3, h4⟩, hcomes, hfn, hl⟩
def resOne (P : Program) (env : Env) (σ : Store) : ResultVar → Option D
  | .tmp t => some (eget t env)
  | .cell t T => match aLoad P σ T (eget t env) with | .val _ d => some d | _ => none
def resPre (P : Program) (env : Env) (σ : Store) : ResultVar → Prop
  | .tmp _ => True
  | .cell t T => match aLoad P σ T (eget t env) with | .val pre _ => pre | _ => False
def resD (P : Program) (env : Env) (σ : Store) (rs : List ResultVar) : D :=
  match rs with
  | [r] => (resOne P env σ r).getD .any
  | rs => .tup (rs.map fun r => (resOne P env σ r).getD .any)
end Go.Ab
namespace Go.Ab
open Go
section
variable {P : Program} {w : World} {S : Nat → Prop} {σ : Store}
theorem aLoad_ok {T : TypeId} {x d : D} {xv : Value} {pre : Prop} (hst : RepStore w S σ) (hx : Rep w S x xv) (h : aLoad P σ T x = .val pre d) (hp : pre) :
    ∃ ad v, xv = .pointer (some ad) ∧ (loadVar T ad).run P w = .ok v w ∧ Rep w S d v := by
  unfold aLoad at h
  split at h
  · rename_i n g cs hn hg
    cases h
    obtain ⟨b, off, vals, he, hb, hr, hc⟩ := elt_inv hx
    obtain ⟨v, hrun, hrep⟩ := rep_load (P := P) (w := w) (S := S) (b := b) (off := off) hn hg hp (fun j d hj => by
      obtain ⟨v, hv, hrep⟩ := hr.get j d hj
      exact ⟨v, hc j v hv, hrep⟩)
    exact ⟨_, v, he, hrun, hrep⟩
  · rename_i n g b sz i off hn hg
    split at h
    · rename_i sz' xs hs
      cases h
      obtain ⟨rfl, hi, hok⟩ := hp
      have hobj := (hst b _ hs).2
      obtain ⟨v, hrun, hrep⟩ := rep_load (P := P) (w := w) (S := S) (b := b) (off := i * sz' + off) hn hg hok (fun j d hj => arr_cell hobj hi off j d hj)
      exact ⟨_, v, ptr_inv hx, hrun, hrep⟩
    · cases h
  · cases h
theorem res_ok {env : Env} {tmps : Array Value} (henv : RepEnv w S env tmps) (hst : RepStore w S σ) : ∀ (rs : List ResultVar), (∀ r ∈ rs, resPre P env σ r) →
    ∃ vs, (rs.mapM (fun r => match r with | .tmp t => pure (tmps.getD t undef) | .cell a t => do loadVar t (← asAddr (tmps.getD a undef)) : ResultVar → Sem Value)).run P w = .ok vs w ∧ RepL w S (rs.map fun r => (resOne P env σ r).getD .any) vs
  | [], _ => ⟨[], rfl, .nil⟩
  | r :: rs, h => by
    obtain ⟨vs, hrun, hrep⟩ := res_ok henv hst rs (fun r hr => h r (by simp [hr]))
    have h1 : ∃ v, (match r with | .tmp t => pure (tmps.getD t undef) | .cell a t => do loadVar t (← asAddr (tmps.getD a undef)) : Sem Value).run P w = .ok v w ∧ Rep w S ((resOne P env σ r).getD .any) v := by
      have hp := h r (by simp)
      cases r with
      | tmp t => exact ⟨_, rfl, henv t⟩
      | cell t T =>
        simp only [resPre] at hp
        simp only [resOne]
        split at hp
        · rename_i pre d hl
          obtain ⟨ad, v, he, hrun, hrep⟩ := aLoad_ok hst (henv t) hl hp
          refine ⟨v, ?_, hrep⟩
          simp only [he, asAddr, Sem.run_bind, Sem.run_pure, Result.andThen_ok, hrun]
        · exact hp.elim
    obtain ⟨v, hv, hvr⟩ := h1
    refine ⟨v :: vs, ?_, .cons hvr hrep⟩
    simp only [List.mapM_cons, Sem.run_bind, hv, Result.andThen_ok, hrun, Sem.run_pure]
theorem results_ok {fn : Func} {env : Env} {tmps : Array Value} (henv : RepEnv w S env tmps) (hst : RepStore w S σ) (h : ∀ r ∈ fn.results.toList, resPre P env σ r) :
    ∃ v, (results fn tmps).run P w = .ok v w ∧ Rep w S (resD P env σ fn.results.toList) v := by
  obtain ⟨vs, hrun, hrep⟩ := res_ok henv hst fn.results.toList h
  unfold results
  rw [Sem.run_bind, Array.mapM_eq_mapM_toList, Sem.run_map]
  erw [hrun]
  unfold resD
  have hlen := hrep.length
  match hrs : fn.results.toList, vs, hrep, hlen with
  | [], vs, hrep, hlen =>
    have : vs = [] := hrep.nil_inv
    subst this
    exact ⟨.tuple #[], rfl, .tup .nil⟩
  | [r], vs, hrep, hlen =>
    obtain ⟨v, vs', rfl, h1, h2⟩ := hrep.cons_inv
    have : vs' = [] := h2.nil_inv
    subst this
    exact ⟨v, rfl, h1⟩
  | r :: r' :: rs, vs, hrep, hlen =>
    refine ⟨.tuple vs.toArray, ?_, .tup hrep⟩
    have hne : ¬ vs.toArray.size = 1 := by simp at hlen ⊢; omega
    simp only [Result.andThen_ok, dif_neg hne, Sem.run_pure]
end
section
variable {P : Program} {N : Slots} {C : Ctx P N} {k : List Item} {env : Env} {σ : Store} {f : FuncId} {fn : Func} {R : AEnd → Store → Prop}
theorem end_of {m : Machine} {w0 : World} {S0 : Nat → Prop} {σ0 : Store} {cs : List Frame} {a : Act} {todo : List Item} {w : World} {S : Nat → Prop} (hf : P.funcs[f]? = some fn) (hd : a.defers = [])
    (henv : RepEnv w S env a.tmps) (hst : RepStore w S σ) (hfr : Fr w0 S0 (sdom σ0) w S σ) (hres : ∀ r ∈ fn.results.toList, resPre P env σ r) (hR : R (.ret (resD P env σ fn.results.toList)) σ)
    (hs : Steps P m (lone { ({ (default : Frame) with fn := f, kind := .normal } : Frame).atR a todo with mode := .returning } cs w)) : EndOk P f w0 S0 σ0 R cs m := by
  obtain ⟨v, hrun, hrep⟩ := results_ok (fn := fn) henv hst hres
  exact ⟨.returned v, w, _, ⟨_, σ, S, hR, hrep, hst, hfr⟩, hs, rfl, rfl, hd, rfl, fn, hf, hrun⟩
theorem Gs.ret (hC : IsCall C f R) (hf : P.funcs[f]? = some fn) (hres : ∀ r ∈ fn.results.toList, resPre P env σ r) (hR : R (.ret (resD P env σ fn.results.toList)) σ) : Gs C (.code .ret :: k) env σ := by
  obtain ⟨w0, S0, σ0, hS, hst, cs, rfl⟩ := hC.ex
  intro a w S hd hs
  exact end_of hf hd hs.env hs.store hs.fr hres hR (.one (stepR_ret rfl))
theorem Gs.done (hC : IsCall C f R) (hf : P.funcs[f]? = some fn) (hres : ∀ r ∈ fn.results.toList, resPre P env σ r) (hR : R (.ret (resD P env σ fn.results.toList)) σ) : Gs C [] env σ := by
  obtain ⟨w0, S0, σ0, hS, hst, cs, rfl⟩ := hC.ex
  intro a w S hd hs
  exact end_of hf hd hs.env hs.store hs.fr hres hR (.one (stepR_end rfl))
theorem Pan.of (hC : IsCall C f R) (hf : P.funcs[f]? = some fn) {d : D} (hR : R (.panic d) σ) : Pan C d σ := by
  obtain ⟨w0, S0, σ0, hS, hst, cs, rfl⟩ := hC.ex
  intro a todo w S v hd hv hst' hfr _
  exact ⟨.panicked [{ v, recovered := false }], w, _, ⟨_, σ, S, hR, ⟨v, rfl, hv⟩, hst', hfr⟩, Steps.refl P _, rfl, rfl, hd, fn, hf⟩
end
mutual
def D.pub (b : Nat) (sz : Nat) (xs : List D) : D → D
  | .own (some c) s n => if c = b ∧ s = sz ∧ n ≤ xs.length then .slc (xs.take n) else .own (some c) s n
  | .agg cs => .agg (pubs b sz xs cs)
  | .tup cs => .tup (pubs b sz xs cs)
  | .clo fn f c => .clo fn (pubs b sz xs f) (pubs b sz xs c)
  | .ifc t x => .ifc t (D.pub b sz xs x)
  | d => d
def pubs (b : Nat) (sz : Nat) (xs : List D) : List D → List D
  | [] => []
  | d :: r => D.pub b sz xs d :: pubs b sz xs r
end
theorem pubs_map (b sz : Nat) (xs : List D) : ∀ ds, pubs b sz xs ds = ds.map (D.pub b sz xs)
  | [] => rfl
  | d :: ds => by rw [pubs, pubs_map b sz xs ds]; rfl
theorem pub_cells (b sz : Nat) (xs : List D) (d : D) : (d.pub b sz xs).cells = d.cells.map (D.pub b sz xs) := by
  cases d with
  | agg cs => simp [D.pub, D.cells, pubs_map]
  | own c s n =>
    cases c with
    | none => simp [D.pub, D.cells]
    | some c =>
      show (if c = b ∧ s = sz ∧ n ≤ xs.length then D.slc (xs.take n) else D.own (some c) s n).cells = [D.pub b sz xs (.own (some c) s n)]
      simp only [D.pub]
      by_cases hc : c = b ∧ s = sz ∧ n ≤ xs.length
      · rw [if_pos hc]; rfl
      · rw [if_neg hc]; rfl
  | _ => simp [D.pub, D.cells]
theorem flat_pubs (b sz : Nat) (xs : List D) : ∀ ds : List D, flat (ds.map (D.pub b sz xs)) = (flat ds).map (D.pub b sz xs)
  | [] => rfl
  | d :: ds => by simp [pub_cells, flat_pubs b sz xs ds]
section
variable {w : World} {S S' : Nat → Prop} {b sz : Nat} {xs : List D}
mutual
theorem rep_pub (hE : Ev w S w S') (hb : S' b) (ho : RepObj w S b (.arr sz xs)) : ∀ {d : D} {v : Value}, Rep w S d v → Rep w S' (d.pub b sz xs) v
  | _, _, .any => .any
  | _, _, .v h => .v h
  | _, _, .ptr => .ptr
  | _, _, .elt h1 h2 h3 => (Rep.elt h1 h2 h3).ev hE
  | _, _, .slc0 => .slc0
  | _, _, .slc h1 h2 h3 h4 h5 => (Rep.slc h1 h2 h3 h4 h5).ev hE
  | _, _, .own0 => .own0
  | .own (some c) s n, _, .own (cap := cap) hh hn hc hm => by
    simp only [D.pub]
    split
    · rename_i hcond
      obtain ⟨rfl, rfl, hle⟩ := hcond
      obtain ⟨c', e', lo, hi, vals, hh', hr, hcv, hs, hfz⟩ := ho
      have hlen : (xs.take n).length = n := by simp; omega
      have key : Rep w S' (.slc (xs.take n)) (.slice (some ⟨c, 0, none⟩) (xs.take n).length cap) := by
       refine Rep.slc (sz := s) hb (vals := vals.take (n * s)) (by rw [flat_take xs n hs]; exact (hr.take _).ev hE) (fun k x hk => ?_) (fun y hy => hs y (List.mem_of_mem_take hy)) (by rw [hlen]; exact hn)
       rw [List.getElem?_take] at hk
       split at hk
       · rw [Nat.zero_add, cells_of_row hh']; exact hcv k x hk
       · cases hk
      rw [hlen] at key
      exact key
    · exact .own hh hn hc hm
  | _, _, .win0 => .win0
  | _, _, .win hh hn hc hm => .win hh hn hc hm
  | _, _, .agg hr => .agg (repL_pub hE hb ho hr)
  | _, _, .tup hr => .tup (repL_pub hE hb ho hr)
  | _, _, .map => .map
  | _, _, .clo hf hc => .clo (repL_pub hE hb ho hf) (repL_pub hE hb ho hc)
  | _, _, .ifc h => .ifc (rep_pub hE hb ho h)
theorem repL_pub (hE : Ev w S w S') (hb : S' b) (ho : RepObj w S b (.arr sz xs)) : ∀ {ds : List D} {vs : List Value}, RepL w S ds vs → RepL w S' (pubs b sz xs ds) vs
  | _, _, .nil => .nil
  | _, _, .cons h t => .cons (rep_pub hE hb ho h) (repL_pub hE hb ho t)
end
def epub (b sz : Nat) (xs : List D) (env : Env) : Env := env.map fun p => (p.1, p.2.pub b sz xs)
theorem eget_epub (b sz : Nat) (xs : List D) (k : Nat) : ∀ env : Env, eget k (epub b sz xs env) = (eget k env).pub b sz xs
  | [] => by simp [epub, eget, D.pub]
  | (j, d) :: env => by
    show (if k = j then d.pub b sz xs else eget k (epub b sz xs env)) = _
    by_cases hk : k = j
    · simp [eget, hk]
    · rw [if_neg hk, eget_epub b sz xs k env]; simp [eget, hk]
def AObj.pub (b sz : Nat) (xs : List D) : AObj → AObj
  | .arr s ys => .arr s (ys.map (D.pub b sz xs))
  | .mp es => .mp (es.map fun e => (e.1, e.2.pub b sz xs))
  | .sit s p => .sit s p
  | .ch cap buf => .ch cap buf
  | .lp st pd fn n env ps asg bd df => .lp st pd fn n (epub b sz xs env) ps asg bd df
  | .dblk => .dblk
def spub (b sz : Nat) (xs : List D) : Store → Store
  | [] => []
  | (c, o) :: r => if b = c then spub b sz xs r else (c, o.pub b sz xs) :: spub b sz xs r
theorem sget_spub (b sz : Nat) (xs : List D) (k : Nat) (σ : Store) : sget k (spub b sz xs σ) = if k = b then none else (sget k σ).map (AObj.pub b sz xs) := by
  induction σ with
  | nil => simp [spub]
  | cons p r ih =>
    obtain ⟨c, o⟩ := p
    by_cases hbc : b = c
    · subst hbc
      by_cases hk : k = b
      · subst hk; simp [spub, ih]
      · simp [spub, sget, hk, ih]
    · by_cases hkc : k = c
      · subst hkc
        have : ¬ k = b := fun h => hbc h.symm
        simp [spub, sget, hbc, this]
      · simp only [spub, hbc, if_false, sget, hkc, ih]
theorem obj_pub (hE : Ev w S w S') (hb : S' b) (ho : RepObj w S b (.arr sz xs)) {k : Nat} {o : AObj} (h : RepObj w S k o) : RepObj w S' k (o.pub b sz xs) := by
  cases o with
  | arr s ys =>
    obtain ⟨c, e, lo, hi, vals, hh, hr, hc, hs, hfz⟩ := h
    refine ⟨c, e, lo, hi, vals, hh, ?_, hc, ?_, hfz⟩
    · rw [flat_pubs, ← pubs_map]; exact repL_pub hE hb ho hr
    · intro y hy
      obtain ⟨z, hz, rfl⟩ := List.mem_map.1 hy
      rw [pub_cells]; simpa using hs z hz
  | mp es =>
    obtain ⟨entries, clock, hh, hr, hk, h1, h2⟩ := h
    refine ⟨entries, clock, hh, ?_, by rw [← hk]; simp, h1, h2⟩
    have := repL_pub hE hb ho hr
    rw [pubs_map] at this
    simpa [AObj.pub, Function.comp_def] using this
  | sit s p => exact h
  | ch cap buf => exact h
  | lp st pd fn n env ps asg bd df =>
    obtain ⟨tmps, hh, hn, hr⟩ := h
    exact ⟨tmps, hh, hn, fun k => by rw [eget_epub]; exact rep_pub hE hb ho (hr k)⟩
  | dblk => exact h
end
section
variable {P : Program} {N : Slots} {C : Ctx P N} {todo : List Item} {env : Env} {σ : Store}
theorem pub_world {w : World} {S : Nat → Prop} {b sz : Nat} {xs : List D} (hst : RepStore w S σ) (hl : ∀ b, S b → b < w.heap.size) (hb : sget b σ = some (.arr sz xs)) :
    Ev w S w (fun k => S k ∨ k = b) ∧ RepStore w (fun k => S k ∨ k = b) (spub b sz xs σ) ∧ Fr w S (sdom σ) w (fun k => S k ∨ k = b) (spub b sz xs σ) := by
  have ho := (hst b _ hb).2
  have hE : Ev w S w (fun k => S k ∨ k = b) := ⟨fun _ h => .inl h, fun _ _ => rfl, Shape.refl w⟩
  have hdom : ∀ k, sdom (spub b sz xs σ) k → sdom σ k := by
    intro k hk
    unfold sdom at *
    rw [sget_spub] at hk
    split at hk
    · exact absurd rfl hk
    · intro hn; rw [hn] at hk; exact hk rfl
  refine ⟨hE, ?_, ⟨rfl, rfl, rfl, Nat.le_refl _, Shape.refl w, fun _ _ _ => rfl, fun _ h => .inl h, ?_, fun k hk => .inl (hdom k hk), ?_⟩⟩
  · intro k o hk
    rw [sget_spub] at hk
    split at hk
    · cases hk
    · rename_i hkb
      obtain ⟨o', ho', rfl⟩ := Option.map_eq_some_iff.1 hk
      obtain ⟨h1, h2⟩ := hst k o' ho'
      exact ⟨fun h => h.elim h1 hkb, obj_pub hE (.inr rfl) ho h2⟩
  · intro k hk
    rcases hk with hk | rfl
    · exact .inl hk
    · exact .inr (.inl (by unfold sdom; rw [hb]; simp))
  · intro k hk
    rcases hk with hk | rfl
    · exact hl k hk
    · exact ho.lt
theorem Gs.publish (b : Nat) {sz : Nat} {xs : List D} (hb : sget b σ = some (.arr sz xs)) (h : Gs C todo (epub b sz xs env) (spub b sz xs σ)) : Gs C todo env σ := by
  intro a w S hd hs
  obtain ⟨hE, hst, hfr⟩ := pub_world hs.store hs.fr.lt hb
  exact h a w _ hd ⟨fun k => by rw [eget_epub]; exact rep_pub hE (.inr rfl) (hs.store b _ hb).2 (hs.env k), hst, hs.fr.trans hfr, hs.size⟩
theorem AC.publish {f : FuncId} {args : List D} {R : AEnd → Store → Prop} (h : AC P f args σ R) {R' : AEnd → Store → Prop}
    (hr : ∀ e σ', R e σ' → R' e σ' ∨ ∃ d b sz xs, e = .ret d ∧ sget b σ' = some (.arr sz xs) ∧ R' (.ret (d.pub b sz xs)) (spub b sz xs σ')) : AC P f args σ R' := by
  intro w S vs hS hst hv
  refine (h w S vs hS hst hv).mono ?_
  rintro e w' ⟨ae, σ', S', hR, hend, hst', hfr⟩
  rcases hr ae σ' hR with hR' | ⟨d, b, sz, xs, rfl, hb, hR'⟩
  · exact ⟨ae, σ', S', hR', hend, hst', hfr⟩
  · obtain ⟨hE, hst2, hfr2⟩ := pub_world hst' hfr.lt hb
    refine ⟨_, _, _, hR', ?_, hst2, hfr.trans hfr2⟩
    cases e with
    | returned v => exact rep_pub hE (.inr rfl) (hst' b _ hb).2 hend
    | panicked chain => exact hend.elim
    | outgrown => exact hend.elim
theorem AC.forget {f : FuncId} {args : List D} {R R' : AEnd → Store → Prop} (h : AC P f args σ R) (hr : ∀ e σ', R e σ' → ∃ σ'', SLe σ'' σ' ∧ R' e σ'') : AC P f args σ R' := by
  intro w S vs hS hst hv
  refine (h w S vs hS hst hv).mono ?_
  rintro e w' ⟨ae, σ', S', hR, hend, hst', hfr⟩
  obtain ⟨σ'', hl, hR'⟩ := hr ae σ' hR
  exact ⟨ae, σ'', S', hR', hend, hst'.le hl, hfr.le hl⟩
end
end Go.Ab
namespace Go.Ab.Tryz
open Go
@[go_sem] theorem res4 : Go.Proofs.Tryz.f4.results.toList = [Go.ResultVar.tmp 6] := by kernel_rfl
@[go_sem] theorem res10 : Go.Proofs.Tryz.f10.results.toList = [Go.ResultVar.tmp 2] := by kernel_rfl
@[go_sem] theorem res12 : Go.Proofs.Tryz.f12.results.toList = [Go.ResultVar.tmp 6, Go.ResultVar.tmp 7] := by kernel_rfl
@[go_sem] theorem res13 : Go.Proofs.Tryz.f13.results.toList = [Go.ResultVar.cell 2 35] := by kernel_rfl
@[go_sem] theorem res14 : Go.Proofs.Tryz.f14.results.toList = [Go.ResultVar.tmp 2] := by kernel_rfl
@[go_sem] theorem res17 : Go.Proofs.Tryz.f17.results.toList = [Go.ResultVar.tmp 0] := by kernel_rfl
@[go_sem] theorem res18 : Go.Proofs.Tryz.f18.results.toList = [Go.ResultVar.tmp 2] := by kernel_rfl
@[go_sem] theorem res19 : Go.Proofs.Tryz.f19.results.toList = [Go.ResultVar.tmp 2] := by kernel_rfl
@[go_sem] theorem res20 : Go.Proofs.Tryz.f20.results.toList = [Go.ResultVar.tmp 2, Go.ResultVar.tmp 3] := by kernel_rfl
@[go_sem] theorem res21 : Go.Proofs.Tryz.f21.results.toList = [Go.ResultVar.tmp 2] := by kernel_rfl
@[go_sem] theorem res22 : Go.Proofs.Tryz.f22.results.toList = [Go.ResultVar.tmp 2] := by kernel_rfl
@[go_sem] theorem res23 : Go.Proofs.Tryz.f23.results.toList = [Go.ResultVar.tmp 6] := by kernel_rfl
@[go_sem] theorem res24 : Go.Proofs.Tryz.f24.results.toList = [Go.ResultVar.tmp 6] := by kernel_rfl
@[go_sem] theorem res25 : Go.Proofs.Tryz.f25.results.toList = [Go.ResultVar.tmp 2] := by kernel_rfl
@[go_sem] theorem res26 : Go.Proofs.Tryz.f26.results.toList = [Go.ResultVar.tmp 2] := by kernel_rfl
@[go_sem] theorem res27 : Go.Proofs.Tryz.f27.results.toList = [Go.ResultVar.tmp 4, Go.ResultVar.tmp 5] := by kernel_rfl
@[go_sem] theorem res28 : Go.Proofs.Tryz.f28.results.toList = [Go.ResultVar.tmp 4] := by kernel_rfl
@[go_sem] theorem res30 : Go.Proofs.Tryz.f30.results.toList = [Go.ResultVar.tmp 2] := by kernel_rfl
@[go_sem] theorem res31 : Go.Proofs.Tryz.f31.results.toList = [Go.ResultVar.tmp 4, Go.ResultVar.tmp 5] := by kernel_rfl
@[go_sem] theorem res32 : Go.Proofs.Tryz.f32.results.toList = [Go.ResultVar.tmp 4] := by kernel_rfl
@[go_sem] theorem res33 : Go.Proofs.Tryz.f33.results.toList = [Go.ResultVar.tmp 4, Go.ResultVar.tmp 5] := by kernel_rfl
@[go_sem] theorem res34 : Go.Proofs.Tryz.f34.results.toList = [Go.ResultVar.tmp 4] := by kernel_rfl
@[go_sem] theorem res35 : Go.Proofs.Tryz.f35.results.toList = [Go.ResultVar.cell 4 58] := by kernel_rfl
@[go_sem] theorem res36 : Go.Proofs.Tryz.f36.results.toList = [Go.ResultVar.tmp 2] := by kernel_rfl
@[go_sem] theorem res37 : Go.Proofs.Tryz.f37.results.toList = [Go.ResultVar.tmp 4] := by kernel_rfl
@[go_sem] theorem res38 : Go.Proofs.Tryz.f38.results.toList = [Go.ResultVar.tmp 4] := by kernel_rfl
@[go_sem] theorem res39 : Go.Proofs.Tryz.f39.results.toList = [Go.ResultVar.tmp 2] := by kernel_rfl
@[go_sem] theorem res40 : Go.Proofs.Tryz.f40.results.toList = [Go.ResultVar.tmp 3] := by kernel_rfl
@[go_sem] theorem res41 : Go.Proofs.Tryz.f41.results.toList = [Go.ResultVar.tmp 2] := by kernel_rfl
@[go_sem] theorem res42 : Go.Proofs.Tryz.f42.results.toList = [Go.ResultVar.cell 6 63, Go.ResultVar.tmp 7] := by kernel_rfl
@[go_sem] theorem res46 : Go.Proofs.Tryz.f46.results.toList = [Go.ResultVar.tmp 2] := by kernel_rfl
@[go_sem] theorem res47 : Go.Proofs.Tryz.f47.results.toList = [Go.ResultVar.tmp 4] := by kernel_rfl
@[go_sem] theorem res50 : Go.Proofs.Tryz.f50.results.toList = [Go.ResultVar.tmp 4] := by kernel_rfl
@[go_sem] theorem res51 : Go.Proofs.Tryz.f51.results.toList = [Go.ResultVar.tmp 4] := by kernel_rfl
@[go_sem] theorem res52 : Go.Proofs.Tryz.f52.results.toList = [Go.ResultVar.tmp 2] := by kernel_rfl
@[go_sem] theorem res53 : Go.Proofs.Tryz.f53.results.toList = [Go.ResultVar.cell 2 58] := by kernel_rfl
@[go_sem] theorem res54 : Go.Proofs.Tryz.f54.results.toList = [Go.ResultVar.tmp 4] := by kernel_rfl
@[go_sem] theorem res55 : Go.Proofs.Tryz.f55.results.toList = [Go.ResultVar.tmp 2] := by kernel_rfl
@[go_sem] theorem res56 : Go.Proofs.Tryz.f56.results.toList = [Go.ResultVar.tmp 4] := by kernel_rfl
@[go_sem] theorem res57 : Go.Proofs.Tryz.f57.results.toList = [Go.ResultVar.tmp 4] := by kernel_rfl
@[go_sem] theorem res58 : Go.Proofs.Tryz.f58.results.toList = [Go.ResultVar.tmp 2] := by kernel_rfl
@[go_sem] theorem res59 : Go.Proofs.Tryz.f59.results.toList = [Go.ResultVar.tmp 4] := by kernel_rfl
@[go_sem] theorem res60 : Go.Proofs.Tryz.f60.results.toList = [Go.ResultVar.tmp 4, Go.ResultVar.tmp 5] := by kernel_rfl
@[go_sem] theorem res61 : Go.Proofs.Tryz.f61.results.toList = [Go.ResultVar.tmp 4] := by kernel_rfl
@[go_sem] theorem res62 : Go.Proofs.Tryz.f62.results.toList = [Go.ResultVar.tmp 4] := by kernel_rfl
@[go_sem] theorem res63 : Go.Proofs.Tryz.f63.results.toList = [Go.ResultVar.tmp 2] := by kernel_rfl
@[go_sem] theorem res64 : Go.Proofs.Tryz.f64.results.toList = [Go.ResultVar.tmp 2] := by kernel_rfl
@[go_sem] theorem res65 : Go.Proofs.Tryz.f65.results.toList = [Go.ResultVar.tmp 4] := by kernel_rfl
@[go_sem] theorem res66 : Go.Proofs.Tryz.f66.results.toList = [Go.ResultVar.tmp 3] := by kernel_rfl
@[go_sem] theorem res67 : Go.Proofs.Tryz.f67.results.toList = [Go.ResultVar.tmp 2] := by kernel_rfl
@[go_sem] theorem res68 : Go.Proofs.Tryz.f68.results.toList = [Go.ResultVar.tmp 6] := by kernel_rfl
@[go_sem] theorem res69 : Go.Proofs.Tryz.f69.results.toList = [Go.ResultVar.tmp 4] := by kernel_rfl
@[go_sem] theorem res70 : Go.Proofs.Tryz.f70.results.toList = [Go.ResultVar.tmp 2] := by kernel_rfl
@[go_sem] theorem res71 : Go.Proofs.Tryz.f71.results.toList = [Go.ResultVar.tmp 4] := by kernel_rfl
@[go_sem] theorem res72 : Go.Proofs.Tryz.f72.results.toList = [Go.ResultVar.tmp 3] := by kernel_rfl
@[go_sem] theorem res73 : Go.Proofs.Tryz.f73.results.toList = [Go.ResultVar.tmp 4] := by kernel_rfl
@[go_sem] theorem res74 : Go.Proofs.Tryz.f74.results.toList = [Go.ResultVar.tmp 4] := by kernel_rfl
@[go_sem] theorem res77 : Go.Proofs.Tryz.f77.results.toList = [Go.ResultVar.cell 2 30] := by kernel_rfl
@[go_sem] theorem res78 : Go.Proofs.Tryz.f78.results.toList = [] := by kernel_rfl
@[go_sem] theorem res79 : Go.Proofs.Tryz.f79.results.toList = [Go.ResultVar.tmp 2, Go.ResultVar.tmp 3, Go.ResultVar.tmp 4, Go.ResultVar.tmp 5, Go.ResultVar.tmp 6] := by kernel_rfl
@[go_sem] theorem res80 : Go.Proofs.Tryz.f80.results.toList = [Go.ResultVar.tmp 0] := by kernel_rfl
@[go_sem] theorem res81 : Go.Proofs.Tryz.f81.results.toList = [] := by kernel_rfl
@[go_sem] theorem res82 : Go.Proofs.Tryz.f82.results.toList = [Go.ResultVar.tmp 4, Go.ResultVar.tmp 5] := by kernel_rfl
@[go_sem] theorem res89 : Go.Proofs.Tryz.f89.results.toList = [Go.ResultVar.tmp 4] := by kernel_rfl
@[go_sem] theorem res90 : Go.Proofs.Tryz.f90.results.toList = [Go.ResultVar.tmp 4] := by kernel_rfl
@[go_sem] theorem res91 : Go.Proofs.Tryz.f91.results.toList = [Go.ResultVar.tmp 4] := by kernel_rfl
@[go_sem] theorem res92 : Go.Proofs.Tryz.f92.results.toList = [Go.ResultVar.tmp 4] := by kernel_rfl
@[go_sem] theorem res93 : Go.Proofs.Tryz.f93.results.toList = [Go.ResultVar.tmp 2] := by kernel_rfl
@[go_sem] theorem res96 : Go.Proofs.Tryz.f96.results.toList = [Go.ResultVar.tmp 2] := by kernel_rfl
@[go_sem] theorem res97 : Go.Proofs.Tryz.f97.results.toList = [Go.ResultVar.tmp 3] := by kernel_rfl
@[go_sem] theorem res99 : Go.Proofs.Tryz.f99.results.toList = [] := by kernel_rfl
@[go_sem] theorem res101 : Go.Proofs.Tryz.f101.results.toList = [Go.ResultVar.tmp 2] := by kernel_rfl
@[go_sem] theorem res105 : Go.Proofs.Tryz.f105.results.toList = [Go.ResultVar.tmp 2, Go.ResultVar.tmp 3] := by kernel_rfl
@[go_sem] theorem res106 : Go.Proofs.Tryz.f106.results.toList = [Go.ResultVar.tmp 2] := by kernel_rfl
@[go_sem] theorem res107 : Go.Proofs.Tryz.f107.results.toList = [Go.ResultVar.tmp 2] := by kernel_rfl
@[go_sem] theorem res108 : Go.Proofs.Tryz.f108.results.toList = [Go.ResultVar.tmp 2] := by kernel_rfl
@[go_sem] theorem res109 : Go.Proofs.Tryz.f109.results.toList = [Go.ResultVar.tmp 2] := by kernel_rfl
@[go_sem] theorem res110 : Go.Proofs.Tryz.f110.results.toList = [Go.ResultVar.tmp 2] := by kernel_rfl
@[go_sem] theorem res112 : Go.Proofs.Tryz.f112.results.toList = [Go.ResultVar.tmp 2] := by kernel_rfl
@[go_sem] theorem res113 : Go.Proofs.Tryz.f113.results.toList = [Go.ResultVar.tmp 2] := by kernel_rfl
@[go_sem] theorem res120 : Go.Proofs.Tryz.f120.results.toList = [Go.ResultVar.tmp 4] := by kernel_rfl
@[go_sem] theorem res121 : Go.Proofs.Tryz.f121.results.toList = [Go.ResultVar.tmp 4] := by kernel_rfl
@[go_sem] theorem res122 : Go.Proofs.Tryz.f122.results.toList = [Go.ResultVar.tmp 2] := by kernel_rfl
@[go_sem] theorem res130 : Go.Proofs.Tryz.f130.results.toList = [Go.ResultVar.tmp 2] := by kernel_rfl
@[go_sem] theorem res131 : Go.Proofs.Tryz.f131.results.toList = [Go.ResultVar.tmp 2] := by kernel_rfl
@[go_sem] theorem res132 : Go.Proofs.Tryz.f132.results.toList = [] := by kernel_rfl
@[go_sem] theorem res133 : Go.Proofs.Tryz.f133.results.toList = [Go.ResultVar.tmp 4] := by kernel_rfl
@[go_sem] theorem res134 : Go.Proofs.Tryz.f134.results.toList = [Go.ResultVar.tmp 4] := by kernel_rfl
@[go_sem] theorem res135 : Go.Proofs.Tryz.f135.results.toList = [Go.ResultVar.tmp 2] := by kernel_rfl
@[go_sem] theorem res137 : Go.Proofs.Tryz.f137.results.toList = [Go.ResultVar.tmp 8] := by kernel_rfl
@[go_sem] theorem res138 : Go.Proofs.Tryz.f138.results.toList = [Go.ResultVar.cell 2 9, Go.ResultVar.cell 3 30] := by kernel_rfl
@[go_sem] theorem res157 : Go.Proofs.Tryz.f157.results.toList = [Go.ResultVar.tmp 4] := by kernel_rfl
@[go_sem] theorem res158 : Go.Proofs.Tryz.f158.results.toList = [Go.ResultVar.tmp 4] := by kernel_rfl
@[go_sem] theorem res159 : Go.Proofs.Tryz.f159.results.toList = [Go.ResultVar.tmp 6] := by kernel_rfl
@[go_sem] theorem res163 : Go.Proofs.Tryz.f163.results.toList = [Go.ResultVar.tmp 4] := by kernel_rfl
@[go_sem] theorem res165 : Go.Proofs.Tryz.f165.results.toList = [Go.ResultVar.tmp 4] := by kernel_rfl
@[go_sem] theorem res166 : Go.Proofs.Tryz.f166.results.toList = [Go.ResultVar.tmp 2] := by kernel_rfl
@[go_sem] theorem res167 : Go.Proofs.Tryz.f167.results.toList = [Go.ResultVar.tmp 2] := by kernel_rfl
@[go_sem] theorem res168 : Go.Proofs.Tryz.f168.results.toList = [Go.ResultVar.tmp 4] := by kernel_rfl
@[go_sem] theorem res189 : Go.Proofs.Tryz.f189.results.toList = [Go.ResultVar.tmp 10, Go.ResultVar.tmp 11] := by kernel_rfl
@[go_sem] theorem res193 : Go.Proofs.Tryz.f193.results.toList = [Go.ResultVar.tmp 6] := by kernel_rfl
@[go_sem] theorem res195 : Go.Proofs.Tryz.f195.results.toList = [Go.ResultVar.tmp 6] := by kernel_rfl
@[go_sem] theorem res196 : Go.Proofs.Tryz.f196.results.toList = [Go.ResultVar.tmp 4] := by kernel_rfl
@[go_sem] theorem res206 : Go.Proofs.Tryz.f206.results.toList = [Go.ResultVar.tmp 2] := by kernel_rfl
@[go_sem] theorem res207 : Go.Proofs.Tryz.f207.results.toList = [Go.ResultVar.tmp 2] := by kernel_rfl
@[go_sem] theorem res208 : Go.Proofs.Tryz.f208.results.toList = [] := by kernel_rfl
@[go_sem] theorem res211 : Go.Proofs.Tryz.f211.results.toList = [Go.ResultVar.tmp 4] := by kernel_rfl
@[go_sem] theorem res214 : Go.Proofs.Tryz.f214.results.toList = [Go.ResultVar.tmp 2] := by kernel_rfl
@[go_sem] theorem size3 : rsize Go.Proofs.Tryz.prog 3 = some 1 := by kernel_rfl
@[go_sem] theorem bytes3 : rbytes Go.Proofs.Tryz.prog 3 = some 8 := by kernel_rfl
@[go_sem] theorem zero3 : rzero Go.Proofs.Tryz.prog 3 = some (Go.Value.int Go.IntKind.i64 0) := by kernel_rfl
@[go_sem] theorem agg3 : ragg Go.Proofs.Tryz.prog 3 = some false := by kernel_rfl
@[go_sem] theorem under3 : Program.underlying Go.Proofs.Tryz.prog 3 = some (Go.TypeDesc.int Go.IntKind.i64) := by kernel_rfl
@[go_sem] theorem size4 : rsize Go.Proofs.Tryz.prog 4 = some 1 := by kernel_rfl
@[go_sem] theorem bytes4 : rbytes Go.Proofs.Tryz.prog 4 = some 1 := by kernel_rfl
@[go_sem] theorem zero4 : rzero Go.Proofs.Tryz.prog 4 = some (Go.Value.bool false) := by kernel_rfl
@[go_sem] theorem agg4 : ragg Go.Proofs.Tryz.prog 4 = some false := by kernel_rfl
@[go_sem] theorem under4 : Program.underlying Go.Proofs.Tryz.prog 4 = some (Go.TypeDesc.bool) := by kernel_rfl
@[go_sem] theorem size5 : rsize Go.Proofs.Tryz.prog 5 = some 1 := by kernel_rfl
@[go_sem] theorem bytes5 : rbytes Go.Proofs.Tryz.prog 5 = some 1 := by kernel_rfl
@[go_sem] theorem zero5 : rzero Go.Proofs.Tryz.prog 5 = some (Go.Value.int Go.IntKind.u8 0) := by kernel_rfl
@[go_sem] theorem agg5 : ragg Go.Proofs.Tryz.prog 5 = some false := by kernel_rfl
@[go_sem] theorem under5 : Program.underlying Go.Proofs.Tryz.prog 5 = some (Go.TypeDesc.int Go.IntKind.u8) := by kernel_rfl
@[go_sem] theorem size9 : rsize Go.Proofs.Tryz.prog 9 = some 1 := by kernel_rfl
@[go_sem] theorem bytes9 : rbytes Go.Proofs.Tryz.prog 9 = some 16 := by kernel_rfl
@[go_sem] theorem zero9 : rzero Go.Proofs.Tryz.prog 9 = some (Go.Value.string ByteArray.empty) := by kernel_rfl
@[go_sem] theorem agg9 : ragg Go.Proofs.Tryz.prog 9 = some false := by kernel_rfl
@[go_sem] theorem str9 : isStr Go.Proofs.Tryz.prog 9 = true := by kernel_rfl
@[go_sem] theorem under9 : Program.underlying Go.Proofs.Tryz.prog 9 = some (Go.TypeDesc.string) := by kernel_rfl
@[go_sem] theorem under20 : Program.underlying Go.Proofs.Tryz.prog 20 = some (Go.TypeDesc.interface #[]) := by kernel_rfl
@[go_sem] theorem size22 : rsize Go.Proofs.Tryz.prog 22 = some 1 := by kernel_rfl
@[go_sem] theorem agg22 : ragg Go.Proofs.Tryz.prog 22 = some false := by kernel_rfl
@[go_sem] theorem elem22 : relem Go.Proofs.Tryz.prog 22 = some 69 := by kernel_rfl
@[go_sem] theorem size23 : rsize Go.Proofs.Tryz.prog 23 = some 1 := by kernel_rfl
@[go_sem] theorem zero23 : rzero Go.Proofs.Tryz.prog 23 = some (Go.Value.slice none 0 0) := by kernel_rfl
@[go_sem] theorem agg23 : ragg Go.Proofs.Tryz.prog 23 = some false := by kernel_rfl
@[go_sem] theorem elem23 : relem Go.Proofs.Tryz.prog 23 = some 9 := by kernel_rfl
@[go_sem] theorem str23 : isStr Go.Proofs.Tryz.prog 23 = false := by kernel_rfl
@[go_sem] theorem under23 : Program.underlying Go.Proofs.Tryz.prog 23 = some (Go.TypeDesc.slice 9) := by kernel_rfl
@[go_sem] theorem size25 : rsize Go.Proofs.Tryz.prog 25 = some 2 := by kernel_rfl
@[go_sem] theorem agg25 : ragg Go.Proofs.Tryz.prog 25 = some true := by kernel_rfl
@[go_sem] theorem fld25_0 : rfield Go.Proofs.Tryz.prog 25 0 = some { name := "Edges", type := 22, offset := 0, embedded := false, tag := "", pkgPath := "", byteOffset := 0 } := by kernel_rfl
@[go_sem] theorem fld25_1 : rfield Go.Proofs.Tryz.prog 25 1 = some { name := "Defaults", type := 23, offset := 1, embedded := false, tag := "", pkgPath := "", byteOffset := 24 } := by kernel_rfl
@[go_sem] theorem elem26 : relem Go.Proofs.Tryz.prog 26 = some 70 := by kernel_rfl
@[go_sem] theorem size29 : rsize Go.Proofs.Tryz.prog 29 = some 1 := by kernel_rfl
@[go_sem] theorem zero29 : rzero Go.Proofs.Tryz.prog 29 = some (Go.Value.slice none 0 0) := by kernel_rfl
@[go_sem] theorem agg29 : ragg Go.Proofs.Tryz.prog 29 = some false := by kernel_rfl
@[go_sem] theorem elem29 : relem Go.Proofs.Tryz.prog 29 = some 56 := by kernel_rfl
@[go_sem] theorem str29 : isStr Go.Proofs.Tryz.prog 29 = false := by kernel_rfl
@[go_sem] theorem under29 : Program.underlying Go.Proofs.Tryz.prog 29 = some (Go.TypeDesc.slice 56) := by kernel_rfl
@[go_sem] theorem size30 : rsize Go.Proofs.Tryz.prog 30 = some 1 := by kernel_rfl
@[go_sem] theorem zero30 : rzero Go.Proofs.Tryz.prog 30 = some (Go.Value.int Go.IntKind.i64 0) := by kernel_rfl
@[go_sem] theorem agg30 : ragg Go.Proofs.Tryz.prog 30 = some false := by kernel_rfl
@[go_sem] theorem size33 : rsize Go.Proofs.Tryz.prog 33 = some 1 := by kernel_rfl
@[go_sem] theorem agg33 : ragg Go.Proofs.Tryz.prog 33 = some false := by kernel_rfl
@[go_sem] theorem elem33 : relem Go.Proofs.Tryz.prog 33 = some 58 := by kernel_rfl
@[go_sem] theorem str33 : isStr Go.Proofs.Tryz.prog 33 = false := by kernel_rfl
@[go_sem] theorem under33 : Program.underlying Go.Proofs.Tryz.prog 33 = some (Go.TypeDesc.slice 58) := by kernel_rfl
@[go_sem] theorem size35 : rsize Go.Proofs.Tryz.prog 35 = some 2 := by kernel_rfl
@[go_sem] theorem zero35 : rzero Go.Proofs.Tryz.prog 35 = some (Go.Value.agg #[Go.Value.slice none 0 0, Go.Value.slice none 0 0]) := by kernel_rfl
@[go_sem] theorem agg35 : ragg Go.Proofs.Tryz.prog 35 = some true := by kernel_rfl
@[go_sem] theorem places35 : placesOk Go.Proofs.Tryz.prog 35 = true := by kernel_rfl
@[go_sem] theorem fld35_0 : rfield Go.Proofs.Tryz.prog 35 0 = some { name := "Edges", type := 33, offset := 0, embedded := false, tag := "", pkgPath := "", byteOffset := 0 } := by kernel_rfl
@[go_sem] theorem fld35_1 : rfield Go.Proofs.Tryz.prog 35 1 = some { name := "Defaults", type := 23, offset := 1, embedded := false, tag := "", pkgPath := "", byteOffset := 24 } := by kernel_rfl
@[go_sem] theorem size44 : rsize Go.Proofs.Tryz.prog 44 = some 1 := by kernel_rfl
@[go_sem] theorem zero44 : rzero Go.Proofs.Tryz.prog 44 = some (Go.Value.pointer none) := by kernel_rfl
@[go_sem] theorem agg44 : ragg Go.Proofs.Tryz.prog 44 = some false := by kernel_rfl
@[go_sem] theorem under44 : Program.underlying Go.Proofs.Tryz.prog 44 = some (Go.TypeDesc.pointer 102) := by kernel_rfl
@[go_sem] theorem size52 : rsize Go.Proofs.Tryz.prog 52 = some 1 := by kernel_rfl
@[go_sem] theorem agg52 : ragg Go.Proofs.Tryz.prog 52 = some false := by kernel_rfl
@[go_sem] theorem elem52 : relem Go.Proofs.Tryz.prog 52 = some 5 := by kernel_rfl
@[go_sem] theorem bs52 : isByteSlice Go.Proofs.Tryz.prog 52 = true := by kernel_rfl
@[go_sem] theorem str52 : isStr Go.Proofs.Tryz.prog 52 = false := by kernel_rfl
@[go_sem] theorem under52 : Program.underlying Go.Proofs.Tryz.prog 52 = some (Go.TypeDesc.slice 5) := by kernel_rfl
@[go_sem] theorem size56 : rsize Go.Proofs.Tryz.prog 56 = some 2 := by kernel_rfl
@[go_sem] theorem bytes56 : rbytes Go.Proofs.Tryz.prog 56 = some 40 := by kernel_rfl
@[go_sem] theorem zero56 : rzero Go.Proofs.Tryz.prog 56 = some (Go.Value.agg #[Go.Value.string ByteArray.empty, Go.Value.slice none 0 0]) := by kernel_rfl
@[go_sem] theorem agg56 : ragg Go.Proofs.Tryz.prog 56 = some true := by kernel_rfl
@[go_sem] theorem places56 : placesOk Go.Proofs.Tryz.prog 56 = true := by kernel_rfl
@[go_sem] theorem fld56_0 : rfield Go.Proofs.Tryz.prog 56 0 = some { name := "Name", type := 9, offset := 0, embedded := false, tag := "", pkgPath := "", byteOffset := 0 } := by kernel_rfl
@[go_sem] theorem fld56_1 : rfield Go.Proofs.Tryz.prog 56 1 = some { name := "B", type := 52, offset := 1, embedded := false, tag := "", pkgPath := "", byteOffset := 16 } := by kernel_rfl
@[go_sem] theorem size58 : rsize Go.Proofs.Tryz.prog 58 = some 6 := by kernel_rfl
@[go_sem] theorem bytes58 : rbytes Go.Proofs.Tryz.prog 58 = some 128 := by kernel_rfl
@[go_sem] theorem zero58 : rzero Go.Proofs.Tryz.prog 58 = some (Go.Value.agg #[Go.Value.slice none 0 0, Go.Value.slice none 0 0, Go.Value.slice none 0 0, Go.Value.slice none 0 0, Go.Value.string ByteArray.empty, Go.Value.string ByteArray.empty]) := by kernel_rfl
@[go_sem] theorem agg58 : ragg Go.Proofs.Tryz.prog 58 = some true := by kernel_rfl
@[go_sem] theorem places58 : placesOk Go.Proofs.Tryz.prog 58 = true := by kernel_rfl
@[go_sem] theorem fld58_0 : rfield Go.Proofs.Tryz.prog 58 0 = some { name := "Outs", type := 23, offset := 0, embedded := false, tag := "", pkgPath := "", byteOffset := 0 } := by kernel_rfl
@[go_sem] theorem fld58_1 : rfield Go.Proofs.Tryz.prog 58 1 = some { name := "Ins", type := 23, offset := 1, embedded := false, tag := "", pkgPath := "", byteOffset := 24 } := by kernel_rfl
@[go_sem] theorem fld58_2 : rfield Go.Proofs.Tryz.prog 58 2 = some { name := "Implicit", type := 23, offset := 2, embedded := false, tag := "", pkgPath := "", byteOffset := 48 } := by kernel_rfl
@[go_sem] theorem fld58_3 : rfield Go.Proofs.Tryz.prog 58 3 = some { name := "Order", type := 23, offset := 3, embedded := false, tag := "", pkgPath := "", byteOffset := 72 } := by kernel_rfl
@[go_sem] theorem fld58_4 : rfield Go.Proofs.Tryz.prog 58 4 = some { name := "Command", type := 9, offset := 4, embedded := false, tag := "", pkgPath := "", byteOffset := 96 } := by kernel_rfl
@[go_sem] theorem fld58_5 : rfield Go.Proofs.Tryz.prog 58 5 = some { name := "Depfile", type := 9, offset := 5, embedded := false, tag := "", pkgPath := "", byteOffset := 112 } := by kernel_rfl
@[go_sem] theorem size63 : rsize Go.Proofs.Tryz.prog 63 = some 4 := by kernel_rfl
@[go_sem] theorem zero63 : rzero Go.Proofs.Tryz.prog 63 = some (Go.Value.agg #[Go.Value.slice none 0 0, Go.Value.bool false, Go.Value.string ByteArray.empty, Go.Value.string ByteArray.empty]) := by kernel_rfl
@[go_sem] theorem agg63 : ragg Go.Proofs.Tryz.prog 63 = some true := by kernel_rfl
@[go_sem] theorem places63 : placesOk Go.Proofs.Tryz.prog 63 = true := by kernel_rfl
@[go_sem] theorem fld63_0 : rfield Go.Proofs.Tryz.prog 63 0 = some { name := "Outs", type := 29, offset := 0, embedded := false, tag := "", pkgPath := "", byteOffset := 0 } := by kernel_rfl
@[go_sem] theorem fld63_1 : rfield Go.Proofs.Tryz.prog 63 1 = some { name := "Once", type := 4, offset := 1, embedded := false, tag := "", pkgPath := "", byteOffset := 24 } := by kernel_rfl
@[go_sem] theorem fld63_2 : rfield Go.Proofs.Tryz.prog 63 2 = some { name := "Depfile", type := 9, offset := 2, embedded := false, tag := "", pkgPath := "", byteOffset := 32 } := by kernel_rfl
@[go_sem] theorem fld63_3 : rfield Go.Proofs.Tryz.prog 63 3 = some { name := "Deps", type := 9, offset := 3, embedded := false, tag := "", pkgPath := "", byteOffset := 48 } := by kernel_rfl
@[go_sem] theorem size69 : rsize Go.Proofs.Tryz.prog 69 = some 6 := by kernel_rfl
@[go_sem] theorem zero69 : rzero Go.Proofs.Tryz.prog 69 = some (Go.Value.agg #[Go.Value.slice none 0 0, Go.Value.slice none 0 0, Go.Value.slice none 0 0, Go.Value.slice none 0 0, Go.Value.string ByteArray.empty, Go.Value.string ByteArray.empty]) := by kernel_rfl
@[go_sem] theorem agg69 : ragg Go.Proofs.Tryz.prog 69 = some true := by kernel_rfl
@[go_sem] theorem fld69_0 : rfield Go.Proofs.Tryz.prog 69 0 = some { name := "Outs", type := 23, offset := 0, embedded := false, tag := "", pkgPath := "", byteOffset := 0 } := by kernel_rfl
@[go_sem] theorem fld69_1 : rfield Go.Proofs.Tryz.prog 69 1 = some { name := "Ins", type := 23, offset := 1, embedded := false, tag := "", pkgPath := "", byteOffset := 24 } := by kernel_rfl
@[go_sem] theorem fld69_2 : rfield Go.Proofs.Tryz.prog 69 2 = some { name := "Implicit", type := 23, offset := 2, embedded := false, tag := "", pkgPath := "", byteOffset := 48 } := by kernel_rfl
@[go_sem] theorem fld69_3 : rfield Go.Proofs.Tryz.prog 69 3 = some { name := "Order", type := 23, offset := 3, embedded := false, tag := "", pkgPath := "", byteOffset := 72 } := by kernel_rfl
@[go_sem] theorem fld69_4 : rfield Go.Proofs.Tryz.prog 69 4 = some { name := "Command", type := 9, offset := 4, embedded := false, tag := "", pkgPath := "", byteOffset := 96 } := by kernel_rfl
@[go_sem] theorem fld69_5 : rfield Go.Proofs.Tryz.prog 69 5 = some { name := "Depfile", type := 9, offset := 5, embedded := false, tag := "", pkgPath := "", byteOffset := 112 } := by kernel_rfl
@[go_sem] theorem size70 : rsize Go.Proofs.Tryz.prog 70 = some 2 := by kernel_rfl
@[go_sem] theorem fld70_0 : rfield Go.Proofs.Tryz.prog 70 0 = some { name := "Name", type := 9, offset := 0, embedded := false, tag := "", pkgPath := "", byteOffset := 0 } := by kernel_rfl
@[go_sem] theorem fld70_1 : rfield Go.Proofs.Tryz.prog 70 1 = some { name := "B", type := 52, offset := 1, embedded := false, tag := "", pkgPath := "", byteOffset := 16 } := by kernel_rfl
@[go_sem] theorem size72 : rsize Go.Proofs.Tryz.prog 72 = some 1 := by kernel_rfl
@[go_sem] theorem bytes72 : rbytes Go.Proofs.Tryz.prog 72 = some 24 := by kernel_rfl
@[go_sem] theorem zero72 : rzero Go.Proofs.Tryz.prog 72 = some (Go.Value.slice none 0 0) := by kernel_rfl
@[go_sem] theorem agg72 : ragg Go.Proofs.Tryz.prog 72 = some false := by kernel_rfl
@[go_sem] theorem elem72 : relem Go.Proofs.Tryz.prog 72 = some 3 := by kernel_rfl
@[go_sem] theorem str72 : isStr Go.Proofs.Tryz.prog 72 = false := by kernel_rfl
@[go_sem] theorem under72 : Program.underlying Go.Proofs.Tryz.prog 72 = some (Go.TypeDesc.slice 3) := by kernel_rfl
@[go_sem] theorem size99 : rsize Go.Proofs.Tryz.prog 99 = some 1 := by kernel_rfl
@[go_sem] theorem agg99 : ragg Go.Proofs.Tryz.prog 99 = some false := by kernel_rfl
@[go_sem] theorem map99 : rmap Go.Proofs.Tryz.prog 99 = some (Go.TypeDesc.string, 3) := by kernel_rfl
@[go_sem] theorem size100 : rsize Go.Proofs.Tryz.prog 100 = some 1 := by kernel_rfl
@[go_sem] theorem agg100 : ragg Go.Proofs.Tryz.prog 100 = some false := by kernel_rfl
@[go_sem] theorem elem100 : relem Go.Proofs.Tryz.prog 100 = some 72 := by kernel_rfl
@[go_sem] theorem str100 : isStr Go.Proofs.Tryz.prog 100 = false := by kernel_rfl
@[go_sem] theorem under100 : Program.underlying Go.Proofs.Tryz.prog 100 = some (Go.TypeDesc.slice 72) := by kernel_rfl
@[go_sem] theorem size102 : rsize Go.Proofs.Tryz.prog 102 = some 4 := by kernel_rfl
@[go_sem] theorem zero102 : rzero Go.Proofs.Tryz.prog 102 = some (Go.Value.agg #[Go.Value.slice none 0 0, Go.Value.slice none 0 0, Go.Value.map none, Go.Value.slice none 0 0]) := by kernel_rfl
@[go_sem] theorem places102 : placesOk Go.Proofs.Tryz.prog 102 = true := by kernel_rfl
@[go_sem] theorem fld102_0 : rfield Go.Proofs.Tryz.prog 102 0 = some { name := "m", type := 35, offset := 0, embedded := false, tag := "", pkgPath := "bellows/graph", byteOffset := 0 } := by kernel_rfl
@[go_sem] theorem fld102_1 : rfield Go.Proofs.Tryz.prog 102 1 = some { name := "makers", type := 99, offset := 2, embedded := false, tag := "", pkgPath := "bellows/graph", byteOffset := 48 } := by kernel_rfl
@[go_sem] theorem fld102_2 : rfield Go.Proofs.Tryz.prog 102 2 = some { name := "ahead", type := 100, offset := 3, embedded := false, tag := "", pkgPath := "bellows/graph", byteOffset := 56 } := by kernel_rfl
@[go_sem] theorem elem108 : relem Go.Proofs.Tryz.prog 108 = some 110 := by kernel_rfl
@[go_sem] theorem size110 : rsize Go.Proofs.Tryz.prog 110 = some 1 := by kernel_rfl
@[go_sem] theorem bytes110 : rbytes Go.Proofs.Tryz.prog 110 = some 24 := by kernel_rfl
@[go_sem] theorem zero110 : rzero Go.Proofs.Tryz.prog 110 = some (Go.Value.slice none 0 0) := by kernel_rfl
@[go_sem] theorem agg110 : ragg Go.Proofs.Tryz.prog 110 = some false := by kernel_rfl
@[go_sem] theorem elem110 : relem Go.Proofs.Tryz.prog 110 = some 4 := by kernel_rfl
@[go_sem] theorem elem121 : relem Go.Proofs.Tryz.prog 121 = some 23 := by kernel_rfl
@[go_sem] theorem elem123 : relem Go.Proofs.Tryz.prog 123 = some 29 := by kernel_rfl
@[go_sem] theorem size128 : rsize Go.Proofs.Tryz.prog 128 = some 1 := by kernel_rfl
@[go_sem] theorem agg128 : ragg Go.Proofs.Tryz.prog 128 = some false := by kernel_rfl
@[go_sem] theorem size130 : rsize Go.Proofs.Tryz.prog 130 = some 5 := by kernel_rfl
@[go_sem] theorem zero130 : rzero Go.Proofs.Tryz.prog 130 = some (Go.Value.agg #[Go.Value.slice none 0 0, Go.Value.slice none 0 0, Go.Value.slice none 0 0, Go.Value.slice none 0 0, Go.Value.int Go.IntKind.i64 0]) := by kernel_rfl
@[go_sem] theorem places130 : placesOk Go.Proofs.Tryz.prog 130 = true := by kernel_rfl
@[go_sem] theorem fld130_0 : rfield Go.Proofs.Tryz.prog 130 0 = some { name := "args", type := 23, offset := 0, embedded := false, tag := "", pkgPath := "bellows/cook", byteOffset := 0 } := by kernel_rfl
@[go_sem] theorem fld130_1 : rfield Go.Proofs.Tryz.prog 130 1 = some { name := "declared", type := 23, offset := 1, embedded := false, tag := "", pkgPath := "bellows/cook", byteOffset := 24 } := by kernel_rfl
@[go_sem] theorem fld130_2 : rfield Go.Proofs.Tryz.prog 130 2 = some { name := "files", type := 29, offset := 2, embedded := false, tag := "", pkgPath := "bellows/cook", byteOffset := 48 } := by kernel_rfl
@[go_sem] theorem fld130_3 : rfield Go.Proofs.Tryz.prog 130 3 = some { name := "found", type := 23, offset := 3, embedded := false, tag := "", pkgPath := "bellows/cook", byteOffset := 72 } := by kernel_rfl
@[go_sem] theorem fld130_4 : rfield Go.Proofs.Tryz.prog 130 4 = some { name := "many", type := 3, offset := 4, embedded := false, tag := "", pkgPath := "bellows/cook", byteOffset := 96 } := by kernel_rfl
@[go_sem] theorem zero131 : rzero Go.Proofs.Tryz.prog 131 = some Go.Value.nilFunc := by kernel_rfl
@[go_sem] theorem under131 : Program.underlying Go.Proofs.Tryz.prog 131 = some (Go.TypeDesc.func #[128] #[52] false) := by kernel_rfl
@[go_sem] theorem map132 : rmap Go.Proofs.Tryz.prog 132 = some (Go.TypeDesc.string, 131) := by kernel_rfl
@[go_sem] theorem size145 : rsize Go.Proofs.Tryz.prog 145 = some 1 := by kernel_rfl
@[go_sem] theorem zero145 : rzero Go.Proofs.Tryz.prog 145 = some (Go.Value.map none) := by kernel_rfl
@[go_sem] theorem agg145 : ragg Go.Proofs.Tryz.prog 145 = some false := by kernel_rfl
@[go_sem] theorem map145 : rmap Go.Proofs.Tryz.prog 145 = some (Go.TypeDesc.int Go.IntKind.i64, 4) := by kernel_rfl
@[go_sem] theorem under146 : Program.underlying Go.Proofs.Tryz.prog 146 = some (Go.TypeDesc.int Go.IntKind.u64) := by kernel_rfl
@[go_sem] theorem size153 : rsize Go.Proofs.Tryz.prog 153 = some 1 := by kernel_rfl
@[go_sem] theorem zero153 : rzero Go.Proofs.Tryz.prog 153 = some (Go.Value.chan none) := by kernel_rfl
@[go_sem] theorem agg153 : ragg Go.Proofs.Tryz.prog 153 = some false := by kernel_rfl
@[go_sem] theorem size160 : rsize Go.Proofs.Tryz.prog 160 = some 0 := by kernel_rfl
@[go_sem] theorem zero160 : rzero Go.Proofs.Tryz.prog 160 = some (Go.Value.agg #[]) := by kernel_rfl
@[go_sem] theorem places160 : placesOk Go.Proofs.Tryz.prog 160 = true := by kernel_rfl
@[go_sem] theorem under160 : Program.underlying Go.Proofs.Tryz.prog 160 = some (Go.TypeDesc.struct #[]) := by kernel_rfl
@[go_sem] theorem under170 : Program.underlying Go.Proofs.Tryz.prog 170 = some (Go.TypeDesc.int Go.IntKind.u64) := by kernel_rfl
@[go_sem] theorem size257 : rsize Go.Proofs.Tryz.prog 257 = some 65 := by kernel_rfl
@[go_sem] theorem zero257 : rzero Go.Proofs.Tryz.prog 257 = some (Go.Value.agg ([Go.Value.int Go.IntKind.u8 0, Go.Value.int Go.IntKind.u8 0, Go.Value.int Go.IntKind.u8 0, Go.Value.int Go.IntKind.u8 0, Go.Value.int Go.IntKind.u8 0, Go.Value.int Go.IntKind.u8 0, Go.Value.int Go.IntKind.u8 0, Go.Value.int Go.IntKind.u8 0, Go.Value.int Go.IntKind.u8 0, Go.Value.int Go.IntKind.u8 0, Go.Value.int Go.IntKind.u8 0, Go.Value.int Go.IntKind.u8 0, Go.Value.int Go.IntKind.u8 0, Go.Value.int Go.IntKind.u8 0, Go.Value.int Go.IntKind.u8 0, Go.Value.int Go.IntKind.u8 0, Go.Value.int Go.IntKind.u8 0, Go.Value.int Go.IntKind.u8 0, Go.Value.int Go.IntKind.u8 0, Go.Value.int Go.IntKind.u8 0, Go.Value.int Go.IntKind.u8 0, Go.Value.int Go.IntKind.u8 0, Go.Value.int Go.IntKind.u8 0, Go.Value.int Go.IntKind.u8 0, Go.Value.int Go.IntKind.u8 0, Go.Value.int Go.IntKind.u8 0, Go.Value.int Go.IntKind.u8 0, Go.Value.int Go.IntKind.u8 0, Go.Value.int Go.IntKind.u8 0, Go.Value.int Go.IntKind.u8 0, Go.Value.int Go.IntKind.u8 0, Go.Value.int Go.IntKind.u8 0].append [Go.Value.int Go.IntKind.u8 0, Go.Value.int Go.IntKind.u8 0, Go.Value.int Go.IntKind.u8 0, Go.Value.int Go.IntKind.u8 0, Go.Value.int Go.IntKind.u8 0, Go.Value.int Go.IntKind.u8 0, Go.Value.int Go.IntKind.u8 0, Go.Value.int Go.IntKind.u8 0, Go.Value.int Go.IntKind.u8 0, Go.Value.int Go.IntKind.u8 0, Go.Value.int Go.IntKind.u8 0, Go.Value.int Go.IntKind.u8 0, Go.Value.int Go.IntKind.u8 0, Go.Value.int Go.IntKind.u8 0, Go.Value.int Go.IntKind.u8 0, Go.Value.int Go.IntKind.u8 0, Go.Value.int Go.IntKind.u8 0, Go.Value.int Go.IntKind.u8 0, Go.Value.int Go.IntKind.u8 0, Go.Value.int Go.IntKind.u8 0, Go.Value.int Go.IntKind.u8 0, Go.Value.int Go.IntKind.u8 0, Go.Value.int Go.IntKind.u8 0, Go.Value.int Go.IntKind.u8 0, Go.Value.int Go.IntKind.u8 0, Go.Value.int Go.IntKind.u8 0, Go.Value.int Go.IntKind.u8 0, Go.Value.int Go.IntKind.u8 0, Go.Value.int Go.IntKind.u8 0, Go.Value.int Go.IntKind.u8 0, Go.Value.int Go.IntKind.u8 0, Go.Value.int Go.IntKind.u8 0, Go.Value.int Go.IntKind.u8 0]).toArray) := by kernel_rfl
@[go_sem] theorem elem257 : relem Go.Proofs.Tryz.prog 257 = none := by kernel_rfl
@[go_sem] theorem arr257 : rarr Go.Proofs.Tryz.prog 257 = some (65, 1) := by kernel_rfl
@[go_sem] theorem elem265 : relem Go.Proofs.Tryz.prog 265 = none := by kernel_rfl
@[go_sem] theorem arr265 : rarr Go.Proofs.Tryz.prog 265 = some (64, 1) := by kernel_rfl
end Go.Ab.Tryz
namespace Go.Ab
open Go
def litB (lit : List Nat) (o : Oper) : Bool := match o.dst with | some k => lit.contains k | none => false
def roRes : ARes → ARes
  | .new pre (.arr n xs) mk => .val (pre ∧ ∀ b, mk b = .own (some b) n xs.length) (.slc xs)
  | .app pre none _ xs => .val pre (.slc xs)
  | .app pre (some b) sz xs => .app pre (some b) sz xs
  | .new pre o mk => .new pre o mk
  | .val p d => .val p d
  | .nd ok f => .nd ok f
  | .upd p d s => .upd p d s
  | .enter f a => .enter f a
  | .panic d => .panic d
  | .bad => .bad
def aBuild0 (P : Program) (T : TypeId) : ARes :=
  match (relem P T).bind (rsize P) with
  | some n => .val True (.own none n 0)
  | none => .bad
def aopL (P : Program) (ro : Bool) (env : Env) (σ : Store) (op : Op) : ARes :=
  if ro = true then
    match op with
    | .buildSlice T 0 ps => if ps.toList = [] then aBuild0 P T else .bad
    | op => roRes (aop P env σ op)
  else aop P env σ op
def aopD (P : Program) (lit : List Nat) (env : Env) (σ : Store) (o : Oper) : ARes := aopL P (litB lit o) env σ o.op
section steps
variable {P : Program} {N : Slots} {C : Ctx P N} {env : Env} {σ : Store} {a : Act} {w : World} {S : Nat → Prop} {o : Oper}
variable {Qp : D → Store → Prop} {next K : Env → Store → Prop} {nx : Act → World → Prop}
theorem sim_ro {k b n : Nat} {xs : List D} {tmps : Array Value} (h : Sim C (eput k (.own (some b) n xs.length) env) ((b, .arr n xs) :: σ) w S tmps) (hn : sget b σ = none) : Sim C (eput k (.slc xs) env) σ w (fun c => S c ∨ c = b) tmps := by
  have hb : sget b ((b, .arr n xs) :: σ) = some (.arr n xs) := sget_self ..
  obtain ⟨hE, hst, hfr⟩ := pub_world h.store h.fr.lt hb
  refine ⟨fun j => ?_, fun c o hc => ?_, { (h.fr.trans hfr) with dom := fun c hc => h.fr.dom c ?_ }, h.size⟩
  · have hj := h.env j
    rw [eget_eput] at hj ⊢
    by_cases hjk : j = k
    · rw [if_pos hjk] at hj ⊢
      have := rep_pub hE (.inr rfl) (h.store b _ hb).2 hj
      simpa [D.pub] using this
    · rw [if_neg hjk] at hj ⊢
      exact hj.ev hE
  · have hcb : c ≠ b := fun e => by subst e; rw [hn] at hc; cases hc
    obtain ⟨h1, h2⟩ := h.store c o (by rw [sget_cons, if_neg hcb]; exact hc)
    exact ⟨fun h => h.elim h1 hcb, h2.ev hE rfl⟩
  · unfold sdom at *
    rw [sget_cons]
    split
    · simp
    · exact hc
theorem s_build0 (h : Sim C env σ w S a.tmps) (hd0 : a.defers = C.ds) (hN : dstOk N o.dst) (hnx : ∀ a w, NX C next a w → nx a w) {T : TypeId} {ps : Array (Nat × Operand)} (ho : o.op = .buildSlice T 0 ps) (hps : ps.toList = []) {Q : Exit → Act → World → Prop}
    (hv : vcRes P Qp next o.dst env σ (aBuild0 P T)) : o.wp P a w nx Q := by
  unfold aBuild0 at hv
  split at hv
  · rename_i n hn
    obtain ⟨e, he, hs⟩ := Option.bind_eq_some_iff.1 hn
    have hps' : ps = #[] := by cases ps; simpa using hps
    subst hps'
    have hrun : (execOp a.eval o).run P w = .ok (.value (.slice (some ⟨w.heap.size, 0, none⟩) 0 0)) (w.alloc (.cells #[] e)) := by
      simp [execOp, ho, Instr.buildSlice, run_underlying (relem_eq he), run_sizeOf hs, Instr.fill, newRow, Array.range_zero']
    refine step_ok h hd0 hN hnx hrun .own0 (S' := S) (fun c o hc => ?_) ?_ hv.2
    · obtain ⟨h1, h2⟩ := h.store c o hc
      exact ⟨h1, h2.ev (ev_alloc h.fr.lt _) (frozen_new w _ c (by have := h2.lt; omega))⟩
    · refine (fr_alloc h (.cells #[] e) (.arr 0 [])).le fun c o hc => ?_
      rw [sget_cons, if_neg]
      · exact hc
      · intro e; subst e; rw [not_sdom_size h.store] at hc; cases hc
  · exact hv.elim
theorem op_soundD {lit : List Nat} (h : Sim C env σ w S a.tmps) (hd0 : a.defers = C.ds) (hN : dstOk N o.dst) (hnx : ∀ a w, NX C next a w → nx a w) (hv : vcRes P Qp next o.dst env σ (aopD P lit env σ o)) : o.wp P a w nx (QX C K Qp) := by
  have main : (∃ k, o.dst = some k) → vcRes P Qp next o.dst env σ (roRes (aop P env σ o.op)) → o.wp P a w nx (QX C K Qp) := by
    rintro ⟨k, hk⟩ hv
    cases hr : aop P env σ o.op with
    | new pre ob mk =>
      rw [hr] at hv
      cases ob with
      | arr n xs =>
        obtain ⟨⟨hp, hmk⟩, hn⟩ := hv
        refine op_sound (next := fun env1 σ1 => ∃ b, sget b σ = none ∧ env1 = eputo o.dst (.own (some b) n xs.length) env ∧ σ1 = (b, .arr n xs) :: σ) h hd0 hN ?_ (by rw [hr]; exact ⟨hp, fun b hb => ⟨b, hb, by rw [hmk], rfl⟩⟩)
        rintro a w ⟨hd, env', σ', S', ⟨b, hb, rfl, rfl⟩, hs⟩
        rw [hk] at hs hn
        exact hnx _ _ ⟨hd, _, _, _, hn, sim_ro hs hb⟩
      | mp es => exact op_sound h hd0 hN hnx (by rw [hr]; exact hv)
      | sit s p => exact op_sound h hd0 hN hnx (by rw [hr]; exact hv)
      | ch cap buf => exact op_sound h hd0 hN hnx (by rw [hr]; exact hv)
      | lp => exact op_sound h hd0 hN hnx (by rw [hr]; exact hv)
      | dblk => exact op_sound h hd0 hN hnx (by rw [hr]; exact hv)
    | app pre b sz xs =>
      rw [hr] at hv
      cases b with
      | some b => exact op_sound h hd0 hN hnx (by rw [hr]; exact hv)
      | none =>
        obtain ⟨hp, hn⟩ := hv
        refine op_sound (next := fun env1 σ1 => ∃ ob : Option Nat, (ob = none → xs = []) ∧ Fresh ob σ ∧ env1 = eputo o.dst (.own ob sz xs.length) env ∧ σ1 = cellsOf ob sz xs ++ σ) h hd0 hN ?_ (by rw [hr]; exact ⟨hp, fun ob h1 h2 => ⟨ob, h1, h2, rfl, rfl⟩⟩)
        rintro a w ⟨hd, env', σ', S', ⟨ob, h1, h2, rfl, rfl⟩, hs⟩
        rw [hk] at hs hn
        cases ob with
        | some b =>
          exact hnx _ _ ⟨hd, _, _, _, hn, sim_ro hs (h2 b rfl)⟩
        | none =>
          have := h1 rfl
          subst this
          refine hnx _ _ ⟨hd, _, _, S', hn, ⟨fun j => ?_, hs.store, hs.fr, hs.size⟩⟩
          have hj := hs.env j
          simp only [eputo] at hj ⊢
          rw [eget_eput] at hj ⊢
          split
          · rename_i hjk
            rw [if_pos hjk] at hj
            generalize a.tmps.getD j undef = v at hj
            cases hj
            exact .slc0
          · rename_i hjk; rw [if_neg hjk] at hj; exact hj
    | val p d => exact op_sound h hd0 hN hnx (by rw [hr] at hv ⊢; exact hv)
    | nd ok f => exact op_sound h hd0 hN hnx (by rw [hr] at hv ⊢; exact hv)
    | upd p d s => exact op_sound h hd0 hN hnx (by rw [hr] at hv ⊢; exact hv)
    | enter f al => exact op_sound h hd0 hN hnx (by rw [hr] at hv ⊢; exact hv)
    | panic d => exact op_sound h hd0 hN hnx (by rw [hr] at hv ⊢; exact hv)
    | bad => rw [hr] at hv; exact hv.elim
  unfold aopD aopL at hv
  split at hv
  · rename_i hl
    have hk : ∃ k, o.dst = some k := by
      unfold litB at hl
      split at hl
      · exact ⟨_, by assumption⟩
      · cases hl
    split at hv
    · rename_i T ps ho
      split at hv
      · rename_i hps
        exact s_build0 h hd0 hN hnx ho hps hv
      · exact hv.elim
    · exact main hk hv
  · exact op_sound h hd0 hN hnx hv
end steps
end Go.Ab
namespace Go.Ab
open Go
def inB (bs : List Nat) : D → Prop
  | .ptr b _ _ _ => b ∈ bs
  | .own (some b) _ _ => b ∈ bs
  | .win b _ _ _ => b ∈ bs
  | .map b => b ∈ bs
  | _ => True
def isNone : D → Prop
  | .own none _ _ => True
  | .v (.slice none 0 0) => True
  | _ => False
def noSl : D → Prop
  | .slc _ | .own _ _ _ | .win _ _ _ _ => False
  | _ => True
def noPtr : D → Prop
  | .ptr _ _ _ _ => False
  | _ => True
def Fixed (lit bs : List Nat) (env : Env) (o : Oper) : Prop :=
  match o.op with
  | .move _ | .assign _ | .pick _ _ _ | .build _ _ | .nilCheck _ | .unOp _ _ _ | .makeFunc _ _ _ | .makeInterface _ _ | .fieldAddr _ _ _ | .field _ _ _ | .indexAddr _ _ _ | .index _ _ _ | .typeAssert _ _ _ _ | .extract _ _ => True
  | .binOp _ _ x y _ => noSl (ev env x) ∧ noSl (ev env y)
  | .slice _ x _ _ _ => noPtr (ev env x)
  | .buildSlice _ _ _ => litB lit o = true
  | .load _ x => inB bs (ev env x)
  | .lookup _ m _ _ => inB bs (ev env m)
  | .convert _ _ x => inB bs (ev env x) ∧ match ev env x with | .v (.string _) => litB lit o = true | _ => True
  | .call c =>
    match c.callee with
    | .builtin .len => match c.args.toList.map (ev env) with | [x] => inB bs x | _ => False
    | .builtin .append => litB lit o = true ∧ match c.args.toList.map (ev env) with | [s, x] => isNone s ∧ inB bs x | _ => False
    | _ => False
  | _ => False
theorem vals_map_congr {α : Type} {f g : α → Operand} {env env' : Env} (l : List (Nat × Operand)) (h : ∀ x ∈ l.map (·.2), ev env x = ev env' x) : (l.map fun p => (p.1, ev env p.2)) = l.map fun p => (p.1, ev env' p.2) :=
  List.map_congr_left fun p hp => by rw [h p.2 (List.mem_map_of_mem hp)]
theorem evs_congr {env env' : Env} (l : List Operand) (h : ∀ x ∈ l, ev env x = ev env' x) : l.map (ev env) = l.map (ev env') := List.map_congr_left h
theorem aop_congr (P : Program) {env env' : Env} (σ : Store) (op : Op) (h : ∀ x ∈ op.operands, ev env x = ev env' x) : aop P env σ op = aop P env' σ op := by
  cases op <;> simp only [Op.operands] at h <;> simp only [aop]
  case build T ps => rw [vals_map_congr (f := id) (g := id) ps.toList (fun x hx => h x (by simpa using hx))]
  case buildSlice T n ps => rw [vals_map_congr (f := id) (g := id) ps.toList (fun x hx => h x (by simpa using hx))]
  case makeFunc fn first captured =>
    rw [evs_congr first.toList fun x hx => h x (by simp at hx ⊢; exact .inl hx), evs_congr captured.toList fun x hx => h x (by simp at hx ⊢; exact .inr hx)]
  case call c =>
    cases hc : c.callee with
    | builtin b => simp only []; rw [evs_congr c.args.toList fun x hx => h x (by simp [Call.operands] at hx ⊢; exact .inr hx)]
    | value f =>
      simp only []
      rw [evs_congr c.args.toList fun x hx => h x (by simp [Call.operands] at hx ⊢; exact .inr hx), h f (by simp [Call.operands, hc])]
    | invoke r m => rfl
  case makeMap T r => cases r <;> rfl
  case slice T x lo hi mx => cases lo <;> cases hi <;> cases mx <;> simp_all
  all_goals (first | rfl | (simp_all; done))
theorem aopD_congr (P : Program) (lit : List Nat) {env env' : Env} (σ : Store) (o : Oper) (h : ∀ x ∈ o.op.operands, ev env x = ev env' x) : aopD P lit env σ o = aopD P lit env' σ o := by
  unfold aopD aopL
  rw [aop_congr P σ o.op h]
  split
  · split
    · rfl
    · rename_i hop; rw [aop_congr P σ o.op h]
  · rfl
theorem fixed_congr (lit bs : List Nat) {env env' : Env} (o : Oper) (h : ∀ x ∈ o.op.operands, ev env x = ev env' x) (hf : Fixed lit bs env o) : Fixed lit bs env' o := by
  have ha : ∀ c : Call, o.op = .call c → c.args.toList.map (ev env) = c.args.toList.map (ev env') := fun c hc => evs_congr c.args.toList fun x hx => h x (by
    rw [hc]; simp [Op.operands, Call.operands] at hx ⊢; exact .inr hx)
  unfold Fixed at *
  cases hop : o.op <;> rw [hop] at hf h <;> dsimp only at hf ⊢ <;> try trivial
  case load T x => rw [← h x (by simp [Op.operands])]; exact hf
  case slice T x lo hi mx => rw [← h x (by simp [Op.operands])]; exact hf
  case lookup T x y ok => rw [← h x (by simp [Op.operands])]; exact hf
  case binOp op T x y T2 => rw [← h x (by simp [Op.operands]), ← h y (by simp [Op.operands])]; exact hf
  case convert s d x => rw [← h x (by simp [Op.operands])]; exact hf
  case call c => rw [← ha c hop]; exact hf
def oneVal : ARes → Prop
  | .val _ _ | .bad => True
  | _ => False
theorem scal_one (P : Program) (s : Sem Value) : oneVal (scal P s) := by
  unfold scal; split <;> (try split) <;> trivial
theorem fixed_spec (P : Program) (lit bs : List Nat) (env : Env) (σ σ' : Store) (o : Oper) (hf : Fixed lit bs env o) (hσ : ∀ b ∈ bs, sget b σ' = sget b σ) : oneVal (aopD P lit env σ o) ∧ aopD P lit env σ' o = aopD P lit env σ o := by
  have hro : ∀ r, oneVal r → oneVal (roRes r) := fun r h => by cases r <;> first | trivial | exact h.elim
  have hoget : ∀ sz ob n, inB bs (.own ob sz n) → oget sz ob σ' = oget sz ob σ := by
    intro sz ob n h
    cases ob with
    | none => rfl
    | some b => simp only [oget]; rw [hσ b h]
  have hload : ∀ T x, inB bs x → oneVal (aLoad P σ T x) ∧ aLoad P σ' T x = aLoad P σ T x := by
    intro T x hx
    unfold aLoad
    cases hr : rsize P T with
    | none => exact ⟨trivial, rfl⟩
    | some n =>
      cases hg : ragg P T with
      | none => exact ⟨trivial, rfl⟩
      | some g =>
        cases x with
        | ptr b sz i off =>
          simp only []
          rw [hσ b hx]
          refine ⟨?_, rfl⟩
          split <;> trivial
        | elt cs => exact ⟨trivial, rfl⟩
        | _ => exact ⟨trivial, rfl⟩
  have hfound : ∀ d z ok k es, oneVal (aFound d z ok k es) := fun _ _ _ _ _ => trivial
  have hlook : ∀ T m k ok, inB bs m → oneVal (aLookup P σ T m k ok) ∧ aLookup P σ' T m k ok = aLookup P σ T m k ok := by
    intro T m k ok hm
    unfold aLookup
    split
    · split
      · rename_i b _
        rw [hσ b hm]
        refine ⟨?_, rfl⟩
        split <;> trivial
      · exact ⟨trivial, rfl⟩
      · exact ⟨trivial, rfl⟩
    · exact ⟨trivial, rfl⟩
  have hlen : ∀ T x, inB bs x → oneVal (aLen P σ T x) ∧ aLen P σ' T x = aLen P σ T x := by
    intro T x hx
    unfold aLen
    split <;> try exact ⟨trivial, rfl⟩
    rename_i b
    rw [hσ b hx]
    refine ⟨?_, rfl⟩
    split <;> trivial
  have hsrc : ∀ x, inB bs x → srcOf σ' x = srcOf σ x := by
    intro x hx
    unfold srcOf
    split <;> try rfl
    · rename_i ob sz n
      rw [hoget sz ob n hx]
    · rename_i b sz off n
      rw [hoget sz (some b) n hx]
  have happ : ∀ T T2 s x, isNone s → inB bs x → oneVal (roRes (aAppend P σ T T2 s x)) ∧ aAppend P σ' T T2 s x = aAppend P σ T T2 s x := by
    intro T T2 s x hs hx
    have h2 : (∃ sz k, s = .own none sz k) ∨ s = .v (.slice none 0 0) := by
      unfold isNone at hs
      split at hs
      · exact .inl ⟨_, _, rfl⟩
      · exact .inr rfl
      · exact hs.elim
    unfold aAppend
    rw [hsrc x hx]
    rcases h2 with ⟨sz, k, rfl⟩ | rfl
    · refine ⟨?_, rfl⟩
      split
      · split <;> trivial
      · trivial
    · refine ⟨?_, rfl⟩
      split
      · split <;> trivial
      · trivial
  have hconv : ∀ s d x, inB bs x → ((∀ t, x ≠ .v (.string t)) → oneVal (aConv P σ s d x)) ∧ oneVal (roRes (aConv P σ s d x)) ∧ aConv P σ' s d x = aConv P σ s d x := by
    intro s d x hx
    unfold aConv
    split
    · exact ⟨fun _ => trivial, trivial, rfl⟩
    · rename_i ob sz n
      have h1 : oget 1 ob σ' = oget 1 ob σ := by
        cases ob with
        | none => rfl
        | some b => simp only [oget]; rw [hσ b hx]
      rw [h1]
      refine ⟨fun _ => ?_, ?_, rfl⟩
      · split <;> trivial
      · split <;> trivial
    · rename_i b sz off n
      have h1 : oget 1 (some b) σ' = oget 1 (some b) σ := by simp only [oget]; rw [hσ b hx]
      rw [h1]
      refine ⟨fun _ => ?_, ?_, rfl⟩
      · split <;> trivial
      · split <;> trivial
    · rename_i t
      refine ⟨fun h => absurd rfl (h t), ?_, rfl⟩
      split
      · trivial
      · exact hro _ (scal_one ..)
    · exact ⟨fun _ => scal_one .., hro _ (scal_one ..), rfl⟩
    · exact ⟨fun _ => trivial, trivial, rfl⟩
  have hmain : ∀ op, o.op = op → (∀ T n ps, op ≠ .buildSlice T n ps) → (litB lit o = true → oneVal (roRes (aop P env σ op))) → (litB lit o = false → oneVal (aop P env σ op)) → aop P env σ' op = aop P env σ op → oneVal (aopD P lit env σ o) ∧ aopD P lit env σ' o = aopD P lit env σ o := by
    intro op hop hne h1 h2 h3
    have e : ∀ s, aopD P lit env s o = if litB lit o = true then roRes (aop P env s op) else aop P env s op := by
      intro s
      unfold aopD aopL
      rw [hop]
      split
      · split
        · exact absurd rfl (hne _ _ _)
        · rfl
      · rfl
    rw [e, e, h3]
    refine ⟨?_, rfl⟩
    split
    · rename_i h; exact h1 h
    · rename_i h; exact h2 (by simpa using h)
  have hsimple : ∀ op, o.op = op → (∀ T n ps, op ≠ .buildSlice T n ps) → oneVal (aop P env σ op) → aop P env σ' op = aop P env σ op → oneVal (aopD P lit env σ o) ∧ aopD P lit env σ' o = aopD P lit env σ o :=
    fun op hop hne h1 h2 => hmain op hop hne (fun _ => hro _ h1) (fun _ => h1) h2
  unfold Fixed at hf
  cases hop : o.op <;> rw [hop] at hf <;> dsimp only at hf <;> try exact hf.elim
  case move x => exact hsimple _ hop (by simp) trivial rfl
  case assign x => exact hsimple _ hop (by simp) trivial rfl
  case pick c x y => exact hsimple _ hop (by simp) (by simp only [aop, aPick]; split <;> trivial) rfl
  case build T ps => exact hsimple _ hop (by simp) (by simp only [aop, aBuild]; repeat (first | trivial | split)) rfl
  case buildSlice T n ps =>
    have e : ∀ s, aopD P lit env s o = aopL P true env s o.op := fun s => by unfold aopD; rw [hf]
    rw [e, e, hop]
    have e2 : ∀ s, aopL P true env s (.buildSlice T n ps) = if n = 0 then (if ps.toList = [] then aBuild0 P T else .bad) else roRes (aop P env σ (.buildSlice T n ps)) := by
      intro s
      unfold aopL
      cases n with
      | zero => rfl
      | succ n => rfl
    rw [e2, e2]
    refine ⟨?_, rfl⟩
    split
    · split
      · unfold aBuild0; split <;> trivial
      · trivial
    · simp only [aop, aBuildSlice]
      repeat (first | trivial | split)
  case nilCheck x => exact hsimple _ hop (by simp) (by simp only [aop, aNilCheck]; split <;> trivial) rfl
  case binOp op T x y T2 => exact hsimple _ hop (by simp) (by
      simp only [aop, aBin]
      split
      · trivial
      · trivial
      unfold aBin0
      split
      · exact scal_one ..
      · split
        · trivial
        · trivial
        · have : aNil (P.underlying T) (ev env x) (ev env y) = none := by
            unfold aNil
            split
            · rename_i hx _; rw [hx] at hf; exact hf.1.elim
            · rename_i hx _; rw [hx] at hf; exact hf.1.elim
            · rfl
          rw [this]
          split <;> first | trivial | (rename_i h; cases h)) rfl
  case unOp op T x => exact hsimple _ hop (by simp) (by simp only [aop, aUn]; split; exact scal_one ..; trivial) rfl
  case makeInterface T x => exact hsimple _ hop (by simp) trivial rfl
  case makeFunc fn f c => exact hsimple _ hop (by simp) trivial rfl
  case slice T x lo hi mx =>
    have e : ∀ s, aop P env s (.slice T x lo hi mx) = aSlice P T (ev env x) (lo.map (ev env)) (hi.map (ev env)) (mx.map (ev env)) := by
      intro s
      simp only [aop, aSliceS]
      split
      · rename_i hx; rw [hx] at hf; exact hf.elim
      · rfl
    exact hsimple _ hop (by simp) (by rw [e]; simp only [aSlice]; repeat (first | trivial | split)) (by rw [e, e])
  case fieldAddr T x f => exact hsimple _ hop (by simp) (by simp only [aop, aFieldAddr]; repeat (first | trivial | split)) rfl
  case field T x f => exact hsimple _ hop (by simp) (by simp only [aop, aField]; repeat (first | trivial | split)) rfl
  case indexAddr T x y => exact hsimple _ hop (by simp) (by simp only [aop, aIndexAddr]; repeat (first | trivial | split)) rfl
  case index T x y => exact hsimple _ hop (by simp) (by simp only [aop, aIndex]; repeat (first | trivial | split)) rfl
  case typeAssert x T' T ok => exact hsimple _ hop (by simp) (by simp only [aop, aTA]; repeat (first | trivial | split)) rfl
  case extract x i => exact hsimple _ hop (by simp) (by simp only [aop, aExtract]; repeat (first | trivial | split)) rfl
  case load T x =>
    obtain ⟨h1, h2⟩ := hload T _ hf
    exact hsimple _ hop (by simp) h1 h2
  case lookup T x y ok =>
    obtain ⟨h1, h2⟩ := hlook T _ (ev env y) ok hf
    exact hsimple _ hop (by simp) h1 h2
  case convert s d x =>
    obtain ⟨h1, h2, h3⟩ := hconv s d _ hf.1
    refine hmain _ hop (by simp) (fun _ => h2) (fun hl => h1 fun t ht => ?_) h3
    have := hf.2
    rw [ht] at this
    simp only [] at this
    rw [hl] at this
    cases this
  case call c =>
    split at hf
    · rename_i hc
      have e : ∀ s, aop P env s (.call c) = aBuiltin P s .len c.argTypes (c.args.toList.map (ev env)) := fun s => by simp only [aop, hc]
      split at hf
      · rename_i x hx
        rw [hx] at e
        refine hsimple _ hop (by simp) ?_ ?_
        · rw [e]
          simp only [aBuiltin]
          split
          · exact (hlen _ x hf).1
          · trivial
        · rw [e, e]
          simp only [aBuiltin]
          split
          · exact (hlen _ x hf).2
          · rfl
      · exact hf.elim
    · rename_i hc
      have e : ∀ s, aop P env s (.call c) = aBuiltin P s .append c.argTypes (c.args.toList.map (ev env)) := fun s => by simp only [aop, hc]
      obtain ⟨hl, hf⟩ := hf
      split at hf
      · rename_i x y hx
        rw [hx] at e
        refine hmain _ hop (by simp) (fun _ => ?_) (fun h => by rw [hl] at h; cases h) ?_
        · rw [e]
          simp only [aBuiltin]
          split
          · exact (happ _ _ x y hf.1 hf.2).1
          · trivial
        · rw [e, e]
          simp only [aBuiltin]
          split
          · exact (happ _ _ x y hf.1 hf.2).2
          · rfl
      · exact hf.elim
    · exact hf.elim
section draw
variable {P : Program} {N : Slots} {C : Ctx P N} {K : Env → Store → Prop} {Qp : D → Store → Prop}
def EEq (e e' : Env) : Prop := ∀ k, eget k e = eget k e'
theorem EEq.refl (e : Env) : EEq e e := fun _ => rfl
theorem EEq.put {e e' : Env} (h : EEq e e') (dst : Option Nat) (d : D) : EEq (eputo dst d e) (eputo dst d e') := by
  cases dst with
  | none => exact h
  | some k => intro j; simp only [eputo, eget_eput, h j]
theorem EEq.ev {e e' : Env} (h : EEq e e') (x : Operand) : ev e x = ev e' x := by cases x <;> first | rfl | exact h _
theorem EEq.comm {x y : Option Nat} (e : Env) (d d' : D) (h : ∀ k, x = some k → y ≠ some k) : EEq (eputo x d (eputo y d' e)) (eputo y d' (eputo x d e)) := by
  cases x with
  | none => exact .refl _
  | some k =>
    cases y with
    | none => exact .refl _
    | some l =>
      have hkl : l ≠ k := fun he => h k rfl (by rw [he])
      intro j
      simp only [eputo, eget_eput]
      by_cases h1 : j = k
      · subst h1; simp [Ne.symm hkl]
      · simp [h1]
theorem EEq.gd {e e' : Env} (h : EEq e e') (ds : List (Option Nat)) (j : Nat) : gd e ds j = gd e' ds j := by
  unfold Ab.gd
  split
  · exact h _
  · rfl
theorem vcRes_mono {n1 n2 : Env → Store → Prop} {dst : Option Nat} {e e' : Env} {σ : Store} {r : ARes} (h : vcRes P Qp n1 dst e σ r) (hn : ∀ d s, n1 (eputo dst d e) s → n2 (eputo dst d e') s) : vcRes P Qp n2 dst e' σ r := by
  cases r with
  | val p d => exact ⟨h.1, hn _ _ h.2⟩
  | nd ok f => exact fun t ht => hn _ _ (h t ht)
  | upd p d s => exact ⟨h.1, hn _ _ h.2⟩
  | new p o mk => exact ⟨h.1, fun b hb => hn _ _ (h.2 b hb)⟩
  | app p b sz xs => exact ⟨h.1, fun ob h1 h2 => hn _ _ (h.2 ob h1 h2)⟩
  | enter f al =>
    obtain ⟨g, hg, hc⟩ := h
    refine ⟨g, hg, hc.mono fun ae s hs => ?_⟩
    cases ae with
    | ret d => exact hn _ _ hs
    | panic d => exact hs
  | panic d => exact h
  | bad => exact h
def vcStep (P : Program) (N : Slots) (lit : List Nat) (ds : List (Option Nat)) (Qp : D → Store → Prop) (next : Env → Store → Prop) (o : Oper) (env : Env) (σ : Store) : Prop :=
  dstB N o.dst ∧
  match o.guard with
  | none => vcRes P Qp next o.dst env σ (aopD P lit env σ o)
  | some (j, want) =>
    match gd env ds j with
    | .v (.bool t) => (t = want → vcRes P Qp next o.dst env σ (aopD P lit env σ o)) ∧ (t = !want → next (eputo o.dst (.tup []) env) σ)
    | .tup [] => next (eputo o.dst (.tup []) env) σ
    | _ => False
theorem vcStep_mono {lit : List Nat} {ds : List (Option Nat)} {n1 n2 : Env → Store → Prop} {o : Oper} {e e' : Env} {σ : Store} (h : vcStep P N lit ds Qp n1 o e σ) (ha : aopD P lit e' σ o = aopD P lit e σ o) (hg : ∀ j w, o.guard = some (j, w) → gd e' ds j = gd e ds j)
    (hn : ∀ d s, n1 (eputo o.dst d e) s → n2 (eputo o.dst d e') s) : vcStep P N lit ds Qp n2 o e' σ := by
  obtain ⟨h0, h⟩ := h
  refine ⟨h0, ?_⟩
  cases hgd : o.guard with
  | none => rw [hgd] at h; dsimp only at h ⊢; rw [ha]; exact vcRes_mono h hn
  | some p =>
    obtain ⟨j, want⟩ := p
    rw [hgd] at h
    dsimp only at h ⊢
    rw [hg j want hgd, ha]
    split at h
    · exact ⟨fun ht => vcRes_mono (h.1 ht) hn, fun ht => hn _ _ (h.2 ht)⟩
    · exact hn _ _ h
    · exact h
def vcOp (P : Program) (N : Slots) (lit : List Nat) (ops : Array Oper) (Qp : D → Store → Prop) (i : Nat) (next : Env → Store → Prop) (env : Env) (σ : Store) : Prop :=
  match ops[i]? with
  | none => next env σ
  | some o => vcStep P N lit (dsts ops) Qp next o env σ
def Keep (bs lasts : List Nat) (i : Nat) (σ σ' : Store) : Prop := lasts.contains i = true ∨ ∀ b ∈ bs, sget b σ' = sget b σ
def vcAny (P : Program) (N : Slots) (lit bs lasts : List Nat) (ops : Array Oper) (K : Env → Store → Prop) (Qp : D → Store → Prop) : Nat → Array Bool → Env → Store → Prop
  | 0, listed, env, σ => Region.ready .any ops listed = [] ∧ K env σ
  | fuel + 1, listed, env, σ => (Region.ready .any ops listed = [] → K env σ) ∧
    ∀ i ∈ Region.ready .any ops listed, vcOp P N lit ops Qp i (fun env' σ' => Keep bs lasts i σ σ' ∧ vcAny P N lit bs lasts ops K Qp fuel (listed.setIfInBounds i true) env' σ') env σ
theorem vcStep_sound {lit : List Nat} {ops : Array Oper} {o : Oper} {next : Env → Store → Prop} {env : Env} {σ : Store} {a : Act} {w : World} {S : Nat → Prop} {nx : Act → World → Prop} (h : vcStep P N lit (dsts ops) Qp next o env σ) (hd : a.defers = C.ds) (hs : Sim C env σ w S a.tmps)
    (hnx : ∀ a w, NX C next a w → nx a w) : if Region.wanted o (yielded ops a.tmps) then o.wp P a w nx (QX C K Qp) ∨ (o.asks P a w ∧ LetsOut (QX C K Qp)) else nx (a.put o.dst undef) w := by
  obtain ⟨hN, h⟩ := h
  have hN' := dstB_ok hN
  cases hg : o.guard with
  | none =>
    rw [hg] at h
    have hw : Region.wanted o (yielded ops a.tmps) = true := by simp [Region.wanted, hg]
    rw [if_pos hw]
    exact .inl (op_soundD hs hd hN' hnx h)
  | some p =>
    obtain ⟨j, want⟩ := p
    rw [hg] at h
    dsimp only at h
    split at h
    · rename_i t ht
      obtain ⟨h1, h2⟩ := h
      have hy := yielded_eq hs.env ht
      have hw : Region.wanted o (yielded ops a.tmps) = (t == want) := by simp [Region.wanted, hg, hy]
      by_cases htw : t = want
      · rw [if_pos (by rw [hw, htw]; simp)]
        exact .inl (op_soundD hs hd hN' hnx (h1 htw))
      · have htw' : t = !want := by cases t <;> cases want <;> simp_all
        rw [if_neg (by rw [hw]; simpa using htw)]
        exact hnx _ _ ⟨by rw [put_defers]; exact hd, _, _, _, h2 htw', sim_put hs hN' (.tup .nil) hs.store (Fr.refl σ hs.fr.lt)⟩
    · rename_i ht
      have hy := yielded_none hs.env ht
      have hw : Region.wanted o (yielded ops a.tmps) = false := by simp [Region.wanted, hg, hy]
      rw [if_neg (by rw [hw]; simp)]
      exact hnx _ _ ⟨by rw [put_defers]; exact hd, _, _, _, h, sim_put hs hN' (.tup .nil) hs.store (Fr.refl σ hs.fr.lt)⟩
    · exact h.elim
theorem vcAny_sound {lit bs lasts : List Nat} {ops : Array Oper} : ∀ (fuel : Nat) (listed : Array Bool) (env : Env) (σ : Store) (a : Act) (w : World) (S : Nat → Prop), vcAny P N lit bs lasts ops K Qp fuel listed env σ → a.defers = C.ds → Sim C env σ w S a.tmps →
    wpAny P .any ops (QX C K Qp) fuel listed a w
  | 0, listed, env, σ, a, w, S, h, hd, hs => ⟨h.1, hd, env, σ, S, h.2, hs⟩
  | fuel + 1, listed, env, σ, a, w, S, h, hd, hs => by
    refine ⟨fun hr => ⟨hd, env, σ, S, h.1 hr, hs⟩, fun i hi => ?_⟩
    have h1 := h.2 i hi
    unfold vcOp at h1
    unfold wpOp
    have hnx : ∀ a w, NX C (fun env' σ' => Keep bs lasts i σ σ' ∧ vcAny P N lit bs lasts ops K Qp fuel (listed.setIfInBounds i true) env' σ') a w → wpAny P .any ops (QX C K Qp) fuel (listed.setIfInBounds i true) a w :=
      fun a w ⟨hd, env', σ', S', hn, hs'⟩ => vcAny_sound fuel _ env' σ' a w S' hn.2 hd hs'
    cases ho : ops[i]? with
    | none => rw [ho] at h1; exact vcAny_sound fuel _ env σ a w S h1.2 hd hs
    | some o => rw [ho] at h1; exact vcStep_sound h1 hd hs hnx
theorem vcAny_congr {lit bs lasts : List Nat} {ops : Array Oper} (hK : ∀ e e' σ, EEq e e' → K e σ → K e' σ) : ∀ (fuel : Nat) (listed : Array Bool) (e e' : Env) (σ : Store), EEq e e' → vcAny P N lit bs lasts ops K Qp fuel listed e σ → vcAny P N lit bs lasts ops K Qp fuel listed e' σ
  | 0, listed, e, e', σ, he, h => ⟨h.1, hK _ _ _ he h.2⟩
  | fuel + 1, listed, e, e', σ, he, h => by
    refine ⟨fun hr => hK _ _ _ he (h.1 hr), fun i hi => ?_⟩
    have h1 := h.2 i hi
    unfold vcOp at h1 ⊢
    split at h1
    · exact ⟨h1.1, vcAny_congr hK fuel _ _ _ _ he h1.2⟩
    · exact vcStep_mono h1 (aopD_congr P lit σ _ fun x _ => (he.ev x).symm) (fun j w _ => (he.gd _ j).symm) fun d s hs => ⟨hs.1, vcAny_congr hK fuel _ _ _ _ (he.put _ d) hs.2⟩
def Outc (P : Program) (lit : List Nat) (ds : List (Option Nat)) (env : Env) (σ : Store) (o : Oper) (d : D) : Prop :=
  match o.guard with
  | none => ∃ p, aopD P lit env σ o = .val p d ∧ p
  | some (j, want) => (∃ t, gd env ds j = .v (.bool t) ∧ (t = want → ∃ p, aopD P lit env σ o = .val p d ∧ p) ∧ (t = !want → d = .tup [])) ∨ (gd env ds j = .tup [] ∧ d = .tup [])
theorem Outc.step {lit : List Nat} {ds : List (Option Nat)} {env : Env} {σ : Store} {o : Oper} {d : D} {next : Env → Store → Prop} (h : Outc P lit ds env σ o d) (hN : dstB N o.dst) (hn : next (eputo o.dst d env) σ) : vcStep P N lit ds Qp next o env σ := by
  refine ⟨hN, ?_⟩
  unfold Outc at h
  cases hg : o.guard with
  | none => rw [hg] at h; obtain ⟨p, h1, h2⟩ := h; dsimp only; rw [h1]; exact ⟨h2, hn⟩
  | some q =>
    obtain ⟨j, want⟩ := q
    rw [hg] at h
    dsimp only
    rcases h with ⟨t, h1, h2, h3⟩ | ⟨h1, rfl⟩
    · rw [h1]
      exact ⟨fun ht => by obtain ⟨p, h4, h5⟩ := h2 ht; rw [h4]; exact ⟨h5, hn⟩, fun ht => by rw [← h3 ht]; exact hn⟩
    · rw [h1]; exact hn
theorem ev_put {dst : Option Nat} {d : D} {env : Env} {x : Operand} (h : ∀ k, dst = some k → x ≠ .tmp k) : ev (eputo dst d env) x = ev env x := by
  cases dst with
  | none => rfl
  | some k =>
    cases x with
    | tmp t =>
      have : t ≠ k := fun e => h k rfl (by rw [e])
      simp only [ev, eputo, eget_eput, if_neg this]
    | _ => rfl
theorem looks_ev {ops : Array Oper} {o : Oper} {dst : Option Nat} {d : D} {env : Env} (h : ∀ k, dst = some k → k ∉ o.looksAt ops) : ∀ x ∈ o.op.operands, ev (eputo dst d env) x = ev env x := fun x hx => ev_put fun k hk hxk => h k hk (by
  subst hxk
  exact List.mem_append_left _ (List.mem_filterMap.2 ⟨.tmp k, by simpa using hx, rfl⟩))
theorem looks_gd {ops : Array Oper} {o : Oper} {dst : Option Nat} {d : D} {env : Env} (h : ∀ k, dst = some k → k ∉ o.looksAt ops) (j : Nat) (w : Bool) (hg : o.guard = some (j, w)) : gd (eputo dst d env) (dsts ops) j = gd env (dsts ops) j := by
  unfold gd
  split
  · rename_i t ht
    refine ev_put (x := .tmp t) fun k hk he => h k hk ?_
    cases he
    refine List.mem_append_right _ ?_
    unfold dsts at ht
    simp only [List.getElem?_map, Array.getElem?_toList, Option.map_eq_some_iff] at ht
    obtain ⟨o', ho', hd'⟩ := ht
    simp [hg, ho', hd']
  · rfl
def storeless (o : Oper) : Bool := match o.op with
  | .move _ | .assign _ | .nilCheck _ | .fieldAddr _ _ _ | .indexAddr _ _ _ | .extract _ _ => true
  | _ => false
theorem storeless_spec {lit : List Nat} {env : Env} {o : Oper} (h : storeless o = true) (σ σ' : Store) : aopD P lit env σ o = aopD P lit env σ' o := by
  unfold storeless at h
  split at h
  all_goals first
    | (rename_i ho; unfold aopD; rw [ho]; rfl)
    | (rename_i ho; simp only [aopD, ho, aop]; done)
    | exact absurd h (by simp)
theorem vcAny_first {lit bs lasts : List Nat} {ops : Array Oper} (hK : ∀ e e' σ, EEq e e' → K e σ → K e' σ) {i : Nat} {oi : Oper} {d : D} (hi : ops[i]? = some oi) (hN : dstB N oi.dst) : ∀ (fuel : Nat) (listed : Array Bool) (env : Env) (σ : Store),
    (∀ j oj, ops[j]? = some oj → j ≠ i → listed.getD j true = false → (∀ e ∈ oj.after, Region.binds .any e = true → e.on ≠ i) → oi.apart ops oj = true ∧ (storeless oi = true ∨ lasts.contains j = false)) →
    i ∈ Region.ready .any ops listed → Fixed lit bs env oi → Outc P lit (dsts ops) env σ oi d →
    vcAny P N lit bs lasts ops K Qp fuel (listed.setIfInBounds i true) (eputo oi.dst d env) σ → vcAny P N lit bs lasts ops K Qp (fuel + 1) listed env σ := by
  intro fuel
  induction fuel with
  | zero =>
    intro listed env σ _ hr hF hO H
    refine ⟨fun h => (by rw [h] at hr; cases hr), fun j hj => ?_⟩
    by_cases hji : j = i
    · subst hji
      unfold vcOp
      rw [hi]
      exact hO.step hN ⟨.inr fun _ _ => rfl, H⟩
    · have := ready_mono hj hji
      rw [H.1] at this
      cases this
  | succ fuel ih =>
    intro listed env σ hfree hr hF hO H
    refine ⟨fun h => (by rw [h] at hr; cases hr), fun j hj => ?_⟩
    by_cases hji : j = i
    · subst hji
      unfold vcOp
      rw [hi]
      exact hO.step hN ⟨.inr fun _ _ => rfl, H⟩
    · have h1 := H.2 j (ready_mono hj hji)
      obtain ⟨hjun, oj, hoj, hall⟩ := mem_ready.1 hj
      have hnot : ∀ e ∈ oj.after, Region.binds .any e = true → e.on ≠ i := fun e he hb heq => by
        have h1 := hall e he hb
        have h0 := (mem_ready.1 hr).1
        rw [heq] at h1
        rcases Nat.lt_or_ge i listed.size with h' | h'
        · simp [h'] at h0 h1; rw [h0] at h1; cases h1
        · simp [Array.getElem?_eq_none h'] at h1
      obtain ⟨hap, hlast⟩ := hfree j oj hoj hji hjun hnot
      obtain ⟨a1, a2, a3⟩ := Oper.apart_spec hap
      have hfree' : ∀ k ok, ops[k]? = some ok → k ≠ i → (listed.setIfInBounds j true).getD k true = false → (∀ e ∈ ok.after, Region.binds .any e = true → e.on ≠ i) → oi.apart ops ok = true ∧ (storeless oi = true ∨ lasts.contains k = false) := fun k ok hk hki hun hno => by
        refine hfree k ok hk hki ?_ hno
        by_cases hjk : j = k
        · subst hjk; exact hjun
        · rw [getD_set_ne true hjk] at hun; exact hun
      unfold vcOp at h1 ⊢
      rw [hoj] at h1 ⊢
      dsimp only at h1 ⊢
      refine vcStep_mono h1 ((aopD_congr P lit σ oj (looks_ev a1)).symm) (fun k w hg => (looks_gd a1 k w hg).symm) fun x s hs => ?_
      obtain ⟨hkeep, hs⟩ := hs
      refine ⟨hkeep, ih _ _ _ hfree' (ready_mono hr (Ne.symm hji)) (fixed_congr lit bs oi (fun y hy => (looks_ev a3 y hy).symm) hF) ?_ ?_⟩
      · have e1 : aopD P lit (eputo oj.dst x env) s oi = aopD P lit env σ oi := by
          rw [aopD_congr P lit s oi (looks_ev a3)]
          rcases hlast with hlast | hlast
          · exact storeless_spec hlast s σ
          · have hk : ∀ b ∈ bs, sget b s = sget b σ := hkeep.resolve_left (by rw [hlast]; simp)
            exact (fixed_spec P lit bs env σ s oi hF hk).2
        unfold Outc at hO ⊢
        split
        · rename_i hg; rw [hg] at hO; rw [e1]; exact hO
        · rename_i k w hg; rw [hg] at hO; rw [e1, looks_gd a3 k w hg]; exact hO
      · rw [Array.setIfInBounds_comm _ _ hji]
        exact vcAny_congr hK fuel _ _ _ _ (EEq.comm env x d fun k hk he => a2 k he hk) hs
def vcD (P : Program) (N : Slots) (lit bs lasts : List Nat) (ops : Array Oper) (K : Env → Store → Prop) (Qp : D → Store → Prop) : List (Nat × Bool) → Env → Store → Prop
  | [], env, σ => K env σ
  | (i, early) :: rest, env, σ =>
    match ops[i]? with
    | none => False
    | some o =>
      if early = true then Fixed lit bs env o ∧ vcStep P N lit (dsts ops) Qp (vcD P N lit bs lasts ops K Qp rest) o env σ
      else vcStep P N lit (dsts ops) Qp (fun env' σ' => Keep bs lasts i σ σ' ∧ vcD P N lit bs lasts ops K Qp rest env' σ') o env σ
def freeL (lasts : List Nat) (ops : Array Oper) (listed : Array Bool) (i : Nat) : Bool :=
  match ops[i]? with
  | none => false
  | some oi => (List.range ops.size).all fun j => j == i || listed.getD j true || match ops[j]? with
      | some oj => oj.after.any (fun e => Region.binds .any e && e.on == i) || (oi.apart ops oj && (storeless oi || !lasts.contains j))
      | none => true
theorem freeL_spec {lasts : List Nat} {ops : Array Oper} {i : Nat} {oi : Oper} {listed : Array Bool} (hi : ops[i]? = some oi) (h : freeL lasts ops listed i = true) (j : Nat) (oj : Oper)
    (hj : ops[j]? = some oj) (hne : j ≠ i) (hun : listed.getD j true = false) (hno : ∀ e ∈ oj.after, Region.binds .any e = true → e.on ≠ i) : oi.apart ops oj = true ∧ (storeless oi = true ∨ lasts.contains j = false) := by
  simp only [freeL, hi, List.all_eq_true, List.mem_range] at h
  have h1 := h j (Array.getElem?_eq_some_iff.1 hj).1
  simp only [hj, Bool.or_eq_true, beq_iff_eq, hne, false_or, hun, Bool.false_eq_true] at h1
  rcases h1 with h1 | h1
  · obtain ⟨e, he, hb⟩ := Array.any_eq_true'.1 h1
    simp only [Bool.and_eq_true, beq_iff_eq] at hb
    exact absurd hb.2 (hno e he hb.1)
  · simpa using h1
def okS (lasts : List Nat) (ops : Array Oper) : List (Nat × Bool) → Array Bool → Bool
  | [], listed => Region.ready .any ops listed == []
  | (i, early) :: rest, listed =>
    (if early = true then (Region.ready .any ops listed).contains i && freeL lasts ops listed i else Region.ready .any ops listed == [i]) && okS lasts ops rest (listed.setIfInBounds i true)
theorem vcD_any {lit bs lasts : List Nat} {ops : Array Oper} (hK : ∀ e e' σ, EEq e e' → K e σ → K e' σ) : ∀ (sched : List (Nat × Bool)) (fuel : Nat) (listed : Array Bool) (env : Env) (σ : Store), okS lasts ops sched listed = true → sched.length ≤ fuel →
    vcD P N lit bs lasts ops K Qp sched env σ → vcAny P N lit bs lasts ops K Qp fuel listed env σ
  | [], fuel, listed, env, σ, hok, _, h => by
    have hr : Region.ready .any ops listed = [] := by simpa [okS] using hok
    cases fuel with
    | zero => exact ⟨hr, h⟩
    | succ n => exact ⟨fun _ => h, by rw [hr]; simp⟩
  | (i, early) :: rest, 0, listed, env, σ, _, hl, _ => by simp at hl
  | (i, early) :: rest, fuel + 1, listed, env, σ, hok, hl, h => by
    simp only [okS, Bool.and_eq_true] at hok
    obtain ⟨h1, h2⟩ := hok
    have hl' : rest.length ≤ fuel := by simp at hl; omega
    simp only [vcD] at h
    split at h
    · exact h.elim
    · rename_i o ho
      cases early with
      | true =>
        simp only [if_true, Bool.and_eq_true] at h1 h
        obtain ⟨hF, hN, hs⟩ := h
        have hsp := fixed_spec P lit bs env σ σ o hF fun _ _ => rfl
        have hval : ∀ {n : Env → Store → Prop}, vcRes P Qp n o.dst env σ (aopD P lit env σ o) → ∃ p d, aopD P lit env σ o = .val p d ∧ p ∧ n (eputo o.dst d env) σ := by
          intro n hv
          have hone := hsp.1
          cases hr : aopD P lit env σ o <;> rw [hr] at hv hone <;> try exact hone.elim
          · exact ⟨_, _, rfl, hv.1, hv.2⟩
          · exact hv.elim
        have key : ∃ d, Outc P lit (dsts ops) env σ o d ∧ vcD P N lit bs lasts ops K Qp rest (eputo o.dst d env) σ := by
          unfold Outc
          cases hg : o.guard with
          | none =>
            rw [hg] at hs
            obtain ⟨p, d, e1, e2, e3⟩ := hval hs
            exact ⟨d, ⟨p, e1, e2⟩, e3⟩
          | some q =>
            obtain ⟨j, want⟩ := q
            rw [hg] at hs
            dsimp only at hs ⊢
            split at hs
            · rename_i t ht
              by_cases htw : t = want
              · obtain ⟨p, d, e1, e2, e3⟩ := hval (hs.1 htw)
                exact ⟨d, .inl ⟨t, ht, fun _ => ⟨p, e1, e2⟩, fun h => by subst htw; cases t <;> cases h⟩, e3⟩
              · have htw' : t = !want := by cases t <;> cases want <;> simp_all
                exact ⟨_, .inl ⟨t, ht, fun h => absurd h htw, fun _ => rfl⟩, hs.2 htw'⟩
            · rename_i ht; exact ⟨_, .inr ⟨ht, rfl⟩, hs⟩
            · exact hs.elim
        obtain ⟨d, hO, hn⟩ := key
        exact vcAny_first hK ho hN fuel listed env σ (freeL_spec ho h1.2) (by simpa using h1.1) hF hO (vcD_any hK rest fuel _ _ _ h2 hl' hn)
      | false =>
        simp only [Bool.false_eq_true, if_false, beq_iff_eq] at h1 h
        refine ⟨fun hr => (by rw [h1] at hr; cases hr), fun j hj => ?_⟩
        rw [h1] at hj
        simp only [List.mem_singleton] at hj
        subst hj
        unfold vcOp
        rw [ho]
        exact vcStep_mono h rfl (fun _ _ _ => rfl) fun d s hs => ⟨hs.1, vcD_any hK rest fuel _ _ _ h2 hl' hs.2⟩
theorem rep_same {w w' : World} {S : Nat → Prop} (hh : w'.heap = w.heap) : Ev w S w' S := ⟨fun _ h => h, fun _ _ => by rw [hh], by unfold Shape; intro b c e fr h; exact ⟨c, fr, by rw [hh]; exact h, rfl⟩⟩
theorem Sim.draw {env : Env} {σ : Store} {w : World} {S : Nat → Prop} {tmps : Array Value} (h : Sim C env σ w S tmps) (n : Nat) : Sim C env σ { w with drawn := n } S tmps := by
  have hE : Ev w S { w with drawn := n } S := rep_same rfl
  refine ⟨fun k => (h.env k).ev hE, fun b o hb => ?_, ⟨h.fr.os, h.fr.tape, h.fr.output, h.fr.size, h.fr.shape, h.fr.block, h.fr.mono, h.fr.new, h.fr.dom, h.fr.lt⟩, h.size⟩
  obtain ⟨h1, h2⟩ := h.store b o hb
  exact ⟨h1, h2.ev hE rfl⟩
theorem Gs.draw {id : Nat} {ops : Array Oper} {k : List Item} {env : Env} {σ : Store} (keep lit bs lasts : List Nat) (sched : List (Nat × Bool)) (hm : P.follows .mixedOrders = true) (hl : sched.length ≤ ops.size) (hok : okS lasts ops sched (Array.replicate ops.size false) = true)
    (h : ∀ K : Env → Store → Prop, (∀ env σ, Gs C k env σ → K env σ) → vcD P N lit bs lasts ops K (Pan C) sched (Ab.rebase keep env) σ) (hnd : ndB ops = true := by kernel_rfl) : Gs C (.code (.region id ops true) :: k) env σ := by
  intro a w S hd hs
  have hv := vcD_any (Qp := Pan C) (K := Gs C k) (fun e e' s he hg => Gs.le (fun k => .inr (he k)) (SLe.refl s) hg) sched ops.size (Array.replicate ops.size false) _ _ hok hl (h (Gs C k) (fun _ _ h => h))
  have hs' : Sim C (Ab.rebase keep env) σ w S a.tmps := ⟨hs.env.le (ele_rebase keep env), hs.store, hs.fr, hs.size⟩
  have hl := vcAny_sound ops.size _ _ σ a _ S hv hd (hs'.draw (w.drawn + 1))
  refine C.hZ _ _ (.one stepR_region_draw) (ops_run hnd _ a _ ?_)
  simp only [Region.schedule, hm, Bool.true_or, if_true]
  exact wpAny_sound ops.size _ _ a _ hl
end draw
end Go.Ab
namespace Go.Ab
open Go
def DLe (d d' : D) : Prop := ∀ (w : World) (S : Nat → Prop) (v : Value), Rep w S d v → Rep w S d' v
theorem DLe.refl (d : D) : DLe d d := fun _ _ _ h => h
theorem DLe.any (d : D) : DLe d .any := fun _ _ _ _ => .any
theorem DLe.nil_own (sz : Nat) : DLe (.v (.slice none 0 0)) (.own none sz 0) := fun _ _ v h => by rw [h.v_inv]; exact .own0
theorem DLe.nil_slc : DLe (.v (.slice none 0 0)) (.slc []) := fun _ _ v h => by rw [h.v_inv]; exact .slc0
theorem DLe.own_slc (sz n : Nat) : DLe (.own none sz n) (.slc []) := fun _ _ v h => by
  obtain ⟨ad, rfl, _⟩ := own0_inv h; exact .slc0
section
variable {P : Program} {N : Slots} {C : Ctx P N} {todo : List Item} {env env' : Env} {σ σ' : Store}
theorem Gs.env_le (h : Gs C todo env' σ) (he : ∀ k, DLe (eget k env) (eget k env')) : Gs C todo env σ :=
  fun a w S hd hs => h a w S hd ⟨fun k => he k _ _ _ (hs.env k), hs.store, hs.fr, hs.size⟩
theorem Gs.condT {k : List Item} {c : Operand} {x y : Code} (hc : cev env c = .v (.bool true)) (h : Gs C (.code x :: k) env σ) : Gs C (.code (.cond c x y) :: k) env σ := Gs.cond hc (fun _ => h) (fun h => nomatch h)
theorem Gs.condF {k : List Item} {c : Operand} {x y : Code} (hc : cev env c = .v (.bool false)) (h : Gs C (.code y :: k) env σ) : Gs C (.code (.cond c x y) :: k) env σ := Gs.cond hc (fun h => nomatch h) (fun _ => h)
theorem AC.ret_le {f : FuncId} {args : List D} {R R' : AEnd → Store → Prop} (h : AC P f args σ R) (hr : ∀ e σ', R e σ' → R' e σ' ∨ ∃ d d', e = .ret d ∧ DLe d d' ∧ R' (.ret d') σ') : AC P f args σ R' := by
  intro w S vs hS hst hv
  refine (h w S vs hS hst hv).mono ?_
  rintro e w' ⟨ae, σ', S', hR, hend, hst', hfr⟩
  rcases hr ae σ' hR with hR' | ⟨d, d', rfl, hd, hR'⟩
  · exact ⟨ae, σ', S', hR', hend, hst', hfr⟩
  · refine ⟨_, σ', S', hR', ?_, hst', hfr⟩
    cases e with
    | returned v => exact hd _ _ _ hend
    | panicked chain => exact hend.elim
    | outgrown => exact hend.elim
theorem AC.args_le {f : FuncId} {args args' : List D} {R : AEnd → Store → Prop} (h : AC P f args' σ R) (ha : ∀ w S vs, RepL w S args vs → RepL w S args' vs) : AC P f args σ R :=
  fun w S vs hS hst hv => h w S vs hS hst (ha _ _ _ hv)
theorem sdel_fresh {b : Nat} (h : sget b σ = none) : sdel b σ = σ := by
  induction σ with
  | nil => rfl
  | cons p r ih =>
    obtain ⟨c, o⟩ := p
    rw [sget_cons] at h
    split at h
    · cases h
    · rename_i hbc
      rw [sdel, if_neg hbc, ih h]
@[simp] theorem sdel_self (b : Nat) (o : AObj) : sdel b ((b, o) :: σ) = sdel b σ := by rw [sdel, if_pos rfl]
theorem fresh_some {b : Nat} : Fresh (some b) σ ↔ sget b σ = none := ⟨fun h => h b rfl, fun h c hc => by cases hc; exact h⟩
theorem fresh_none : Fresh none σ := fun c hc => by cases hc
theorem sle_cons {b : Nat} {o : AObj} (h : SLe σ σ') (hn : sget b σ = none) : SLe σ ((b, o) :: σ') := fun c x hc => by
  rw [sget_cons]
  split
  · rename_i hcb; subst hcb; rw [hn] at hc; cases hc
  · exact h c x hc
theorem sle_cons_cons {b : Nat} {o : AObj} (h : SLe σ σ') : SLe ((b, o) :: σ) ((b, o) :: σ') := fun c x hc => by
  rw [sget_cons] at hc ⊢
  split at hc
  · rename_i hcb; rw [if_pos hcb]; exact hc
  · rename_i hcb; rw [if_neg hcb]; exact h c x hc
theorem SLe.trans {σ'' : Store} (h : SLe σ σ') (h' : SLe σ' σ'') : SLe σ σ'' := fun b o hb => h' b o (h b o hb)
theorem sle_cells {ob : Option Nat} {sz : Nat} {xs : List D} (h : Fresh ob σ) : SLe σ (cellsOf ob sz xs ++ σ) := by
  cases ob with
  | none => exact SLe.refl σ
  | some b => exact sle_cons (SLe.refl σ) (h b rfl)
theorem none_of_sle {b : Nat} (h : SLe σ σ') (hb : sget b σ' = none) : sget b σ = none := by
  cases hs : sget b σ with
  | none => rfl
  | some o => rw [h b o hs] at hb; cases hb
theorem sdelo_cells {ob : Option Nat} {sz : Nat} {xs : List D} (h : Fresh ob σ) : sdelo ob (cellsOf ob sz xs ++ σ) = σ := by
  cases ob with
  | none => rfl
  | some b => show sdel b ((b, _) :: σ) = σ; rw [sdel_self, sdel_fresh (h b rfl)]
end
section region
variable {P : Program} {N : Slots} {C : Ctx P N} {K : Env → Store → Prop} {Qp : D → Store → Prop}
def vcM (P : Program) (N : Slots) (lit : List Nat) (ds : List (Option Nat)) (K : Env → Store → Prop) (Qp : D → Store → Prop) : List Oper → Env → Store → Prop
  | [], env, σ => K env σ
  | o :: rest, env, σ => vcStep P N lit ds Qp (vcM P N lit ds K Qp rest) o env σ
theorem vcM_sound {lit : List Nat} {ops : Array Oper} : ∀ (l : List Oper) (env : Env) (σ : Store) (a : Act) (w : World) (S : Nat → Prop), vcM P N lit (dsts ops) K Qp l env σ → a.defers = C.ds → Sim C env σ w S a.tmps → wpList P ops (QX C K Qp) l a w
  | [], env, σ, a, w, S, h, hd, hs => ⟨hd, env, σ, S, h, hs⟩
  | o :: rest, env, σ, a, w, S, h, hd, hs => by
    simp only [wpList]
    exact vcStep_sound h hd hs fun a w ⟨hd, env', σ', S', hn, hs'⟩ => vcM_sound rest env' σ' a w S' hn hd hs'
theorem Gs.regionM {id : Nat} {ops : Array Oper} {k : List Item} {env : Env} {σ : Store} (keep lit : List Nat)
    (h : ∀ K : Env → Store → Prop, (∀ env σ, Gs C k env σ → K env σ) → vcM P N lit (dsts ops) K (Pan C) ops.toList (Ab.rebase keep env) σ) (hnd : ndB ops = true := by kernel_rfl) : Gs C (.code (.region id ops false) :: k) env σ := by
  intro a w S hd hs
  have hv := h (Gs C k) (fun _ _ h => h)
  have hs' : Sim C (Ab.rebase keep env) σ w S a.tmps := ⟨hs.env.le (ele_rebase keep env), hs.store, hs.fr, hs.size⟩
  have hl := vcM_sound ops.toList _ σ a w S hv hd hs'
  have heq := wpOps_eq_wpList (P := P) (ops := ops) (Q := QX C (Gs C k) (Pan C)) ops.toList 0 (fun j => by simp)
  have : wpOps P ops (QX C (Gs C k) (Pan C)) (List.range ops.size) a w := by
    rw [List.range_eq_range', show ops.size = ops.toList.length by simp, heq]; exact hl
  exact C.hZ _ _ (.one stepR_region) (ops_run hnd _ a w this)
end region
end Go.Ab
