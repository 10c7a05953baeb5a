/- The steps of a region, part 10: maps; strings gone through. -/
import Derived.Test.YtcpcfglccnmmnaaAbL
set_option linter.unusedSimpArgs false
set_option linter.unusedVariables false
set_option linter.constructorNameAsVariable false
namespace Go.Ab
open Go

theorem bytes_beq (a b : ByteArray) : (a == b) = true ↔ a = b := by
  show ByteArray.beq a b = true ↔ _
  cases a; cases b
  simp [ByteArray.beq]

section
variable {P : Program} {w : World} {S : Nat → Prop}

theorem sameNow_ok {d : TypeDesc} {k j : Value} (h : keyLike d k j = true) : Instr.sameNow d k j = some (keyEq k j) := by
  unfold keyLike at h
  split at h
  · split at h
    · simp at h; subst h; simp [Instr.sameNow, keyEq]
    · simp at h
  · split at h
    · rfl
    · cases h
  · split at h
    · rfl
    · cases h
  · cases h

theorem findNow_ok {d : TypeDesc} {k : Value} : ∀ (entries : List MapEntry) (es : List (Value × D)) (i : Nat), es.map (·.1) = entries.map (·.key) → RepL w S (es.map (·.2)) (entries.map (·.val)) → (∀ e ∈ es, keyLike d k e.1 = true) →
    (Instr.findNow d k entries i = some none ∧ mfind k es = none ∧ (∀ x, mset k x es = es ++ [(k, x)]) ∧ mdel k es = es) ∨
    (∃ m e p, Instr.findNow d k entries i = some (some (i + m, e.val)) ∧ entries[m]? = some e ∧ es[m]? = some p ∧ p.1 = e.key ∧ Rep w S p.2 e.val ∧ keyEq k e.key = true ∧ mfind k es = some p.2 ∧ (∀ x, mset k x es = es.set m (k, x)) ∧ mdel k es = es.eraseIdx m)
  | [], es, i, hk, hr, hl => by
    have : es = [] := by cases es with | nil => rfl | cons e es => simp at hk
    subst this
    exact .inl ⟨rfl, rfl, fun _ => rfl, rfl⟩
  | e :: entries, [], i, hk, hr, hl => by simp at hk
  | e :: entries, p :: es, i, hk, hr, hl => by
    obtain ⟨j, x⟩ := p
    simp only [List.map_cons, List.cons.injEq] at hk
    obtain ⟨rfl, hk⟩ := hk
    simp only [List.map_cons] at hr
    obtain ⟨v, vs, he, hx, hrs⟩ := hr.cons_inv
    cases he
    have hs := sameNow_ok (hl _ (List.mem_cons_self ..))
    cases hq : keyEq k e.key with
    | true =>
      refine .inr ⟨0, e, (e.key, x), ?_, rfl, rfl, rfl, hx, hq, ?_, ?_, ?_⟩
      · simp only at hs; simp [Instr.findNow, hs, hq]
      · simp [mfind, hq]
      · intro y; simp [mset, hq]
      · simp [mdel, hq]
    | false =>
      rcases findNow_ok entries es (i + 1) hk hrs (fun e he => hl e (by simp [he])) with ⟨h1, h2, h3, h4⟩ | ⟨m, f, p, h1, h2, h3, h4, h5, h6, h7, h8, h9⟩
      · refine .inl ⟨?_, ?_, ?_, ?_⟩
        · simp only at hs; simp [Instr.findNow, hs, hq, h1]
        · simp [mfind, hq, h2]
        · intro y; simp [mset, hq, h3]
        · simp [mdel, hq, h4]
      · refine .inr ⟨m + 1, f, p, ?_, by simpa using h2, by simpa using h3, h4, h5, h6, ?_, ?_, ?_⟩
        · simp only at hs; simp [Instr.findNow, hs, hq, h1]; omega
        · simp [mfind, hq, h7]
        · intro y; simp [mset, hq, h8]
        · simp [mdel, hq, h9]

theorem rmap_eq {T e : TypeId} {d : TypeDesc} (h : rmap P T = some (d, e)) : ∃ kt, P.underlying T = some (.map kt e) ∧ P.underlying kt = some d := by
  unfold rmap at h
  split at h
  · rename_i k e' hT
    split at h
    · rename_i d' hd; cases h; exact ⟨k, hT, hd⟩
    · cases h
  · cases h

theorem checkKey_ok {d : TypeDesc} {kt : TypeId} {k : Value} (b : Bool) (hd : P.underlying kt = some d) (hk : keyLike d k k = true) : (Instr.checkKey b 10000 kt k).run P w = .ok () w := by
  show (Instr.checkKey b (9999 + 1) kt k).run P w = _
  unfold keyLike at hk
  rw [Instr.checkKey]
  split at hk
  · split at hk
    · simp [run_underlying hd]
    · simp at hk
  · split at hk
    · simp [run_underlying hd]
    · cases hk
  · split at hk
    · simp [run_underlying hd]
    · cases hk
  · cases hk

theorem findKey_ok {d : TypeDesc} {kt : TypeId} {k : Value} {es : List MapEntry} {r : Option (Nat × Value)} (hd : P.underlying kt = some d) (h : Instr.findNow d k es 0 = some r) : (Instr.findKey kt k es).run P w = .ok r w := by
  simp [Instr.findKey, run_underlying hd, h]

theorem stays_ok {j k : Value} (h : keyEq k j = true) : (Instr.keyThatStays j k).run P w = .ok k w := by
  have : Instr.sameBits 10000 j k = true := by
    unfold keyEq at h
    split at h
    · simp only [Bool.and_eq_true, beq_iff_eq] at h; obtain ⟨rfl, rfl⟩ := h; simp [Instr.sameBits]
    · rw [bytes_beq] at h; subst h; simp only [Instr.sameBits]; exact (bytes_beq _ _).2 rfl
    · simp only [beq_iff_eq] at h; subst h; simp [Instr.sameBits]
    · cases h
  simp [Instr.keyThatStays, this]

theorem fr_map {w' : World} {σ : Store} {b : Nat} {x y : AObj} {ob : Obj} (hl : ∀ b, S b → b < w.heap.size) (hs : sget b σ = some x) (hob : ∃ es c, w.heap[b]? = some (.map es c) ∨ ∃ s p, w.heap[b]? = some (.stringIter s p)) (hw : w' = { w with heap := w.heap.setIfInBounds b ob }) :
    Fr w S (sdom σ) w' S (sset b y σ) ∧ (∀ k, k ≠ b → w'.heap[k]? = w.heap[k]?) ∧ (b < w.heap.size → w'.heap[b]? = some ob) := by
  subst hw
  have ho : ∀ k, k ≠ b → (w.heap.setIfInBounds b ob)[k]? = w.heap[k]? := fun k hk => by rw [Array.getElem?_setIfInBounds, if_neg (fun h => hk h.symm)]
  refine ⟨fr_row hl hs rfl rfl rfl (by simp) ho ?_, ho, fun hb => by simp [hb]⟩
  intro k c e fr hk
  by_cases hkb : k = b
  · subst hkb
    obtain ⟨es, c', h | ⟨s, p, h⟩⟩ := hob <;> rw [h] at hk <;> cases hk
  · exact ⟨c, fr, (ho k hkb).trans hk, rfl⟩

end

section steps
variable {P : Program} {N : Slots} {C : Ctx P N} {env : Env} {σ : Store} {a : Act} {w : World} {S : Nat → Prop} {o : Oper}
variable {Qp : D → Store → Prop} {next : Env → Store → Prop} {nx : Act → World → Prop} {Q : Exit → Act → World → Prop}

theorem map_inv {b : Nat} {v : Value} (h : Rep w S (.map b) v) : v = .map (some b) := by cases h; rfl

theorem s_lookup (h : Sim C env σ w S a.tmps) (hd0 : a.defers = C.ds) (hN : dstOk N o.dst) (hnx : ∀ a w, NX C next a w → nx a w) {T : TypeId} {x y : Operand} {ok : Bool} (ho : o.op = .lookup T x y ok)
    (hv : vcRes P Qp next o.dst env σ (aLookup P σ T (ev env x) (ev env y) ok)) : o.wp P a w nx Q := by
  unfold aLookup at hv
  split at hv
  · rename_i d e k hT hk
    obtain ⟨kt, hT1, hT2⟩ := rmap_eq hT
    have hy := toV_rep hk (ev_rep h y)
    have key : ∀ {z : Value} {es : List (Value × D)} {entries : Array MapEntry}, rzero P e = some z → es.map (·.1) = entries.toList.map (·.key) → RepL w S (es.map (·.2)) (entries.toList.map (·.val)) →
        ((a.eval x = .map none ∧ entries = #[]) ∨ ∃ b clock, a.eval x = .map (some b) ∧ (getObj b).run P w = .ok (.map entries clock) w) → vcRes P Qp next o.dst env σ (aFound d z ok k es) → o.wp P a w nx Q := by
      intro z es entries hz hke hre hrun1 hv
      obtain ⟨⟨h1, h2, h3⟩, hk'⟩ := hv
      have hzr : Rep w S (ofV z) z := rep_ofV h1
      have main : ∃ v b, (Instr.lookup T (a.eval x) (a.eval y) ok).run P w = .ok (if ok then .tuple #[v, .bool b] else v) w ∧ Rep w S ((mfind k es).getD (ofV z)) v ∧ b = (mfind k es).isSome := by
        rcases findNow_ok entries.toList es 0 hke hre h3 with ⟨f1, f2, _, _⟩ | ⟨m, f, p, f1, f2, f3, f4, f5, f6, f7, f8, f9⟩
        · refine ⟨z, false, ?_, by rw [f2]; exact hzr, by rw [f2]; rfl⟩
          unfold Instr.lookup
          rcases hrun1 with ⟨hx, rfl⟩ | ⟨b, clock, hx, hget⟩
          · simp only [Sem.run_bind, run_underlying hT1, Result.andThen_ok, hx, checkKey_ok _ hT2 h2, hy, findKey_ok hT2 f1, run_zeroValue hz, Sem.run_pure]
          · simp only [Sem.run_bind, run_underlying hT1, Result.andThen_ok, hx, hget, checkKey_ok _ hT2 h2, hy, findKey_ok hT2 f1, run_zeroValue hz, Sem.run_pure]
        · refine ⟨f.val, true, ?_, by rw [f7]; exact f5, by rw [f7]; rfl⟩
          unfold Instr.lookup
          rcases hrun1 with ⟨hx, rfl⟩ | ⟨b, clock, hx, hget⟩
          · simp at f2
          · simp only [Sem.run_bind, run_underlying hT1, Result.andThen_ok, hx, hget, checkKey_ok _ hT2 h2, hy, findKey_ok hT2 f1, Sem.run_pure]
      obtain ⟨v, b, hrun, hrep, rfl⟩ := main
      cases ok with
      | true => exact step_val h hd0 hN hnx (v := .tuple #[v, .bool (mfind k es).isSome]) (by simp only [execOp, ho]; rw [Sem.run_bind, hrun]; rfl) (.tup (.cons hrep (.cons (.v rfl) .nil))) hk'
      | false => exact step_val h hd0 hN hnx (v := v) (by simp only [execOp, ho]; rw [Sem.run_bind, hrun]; rfl) hrep hk'
    split at hv
    · rename_i z b hz hm
      have hx := ev_rep h x
      rw [hm] at hx
      split at hv
      · rename_i es hs
        obtain ⟨entries, clock, hh, hr, hke, _⟩ := (h.store b _ hs).2
        refine key hz hke hr ?_ hv
        have hget : (getObj b).run P w = .ok (.map entries clock) w := by simp [getObj, Sem.run, hh]
        exact .inr ⟨b, clock, map_inv hx, hget⟩
      · exact hv.elim
    · rename_i z hz hm
      have hx := ev_rep h x
      rw [hm] at hx
      exact key (entries := #[]) hz rfl .nil (.inl ⟨hx.v_inv, rfl⟩) hv
    · exact hv.elim
  · exact hv.elim

theorem set_entries {es : List (Value × D)} {entries : Array MapEntry} {m : Nat} {k : Value} {x : D} {xv : Value} (hk : es.map (·.1) = entries.toList.map (·.key)) (hr : RepL w S (es.map (·.2)) (entries.toList.map (·.val))) (hx : Rep w S x xv) :
    (es.set m (k, x)).map (·.1) = (entries.modify m fun e => { e with key := k, val := xv }).toList.map (·.key) ∧ RepL w S ((es.set m (k, x)).map (·.2)) ((entries.modify m fun e => { e with key := k, val := xv }).toList.map (·.val)) ∧
    (entries.modify m fun e => { e with key := k, val := xv }).toList.map (·.born) = entries.toList.map (·.born) := by
  have e1 : (entries.modify m fun e => { e with key := k, val := xv }).toList.map (·.key) = (entries.toList.map (·.key)).set m k := by
    apply List.ext_getElem?
    intro i
    simp only [List.getElem?_map, Array.getElem?_toList, Array.getElem?_modify, List.getElem?_set, List.length_map, Array.length_toList]
    by_cases h : m = i
    · subst h
      by_cases hl : m < entries.size <;> simp [hl]
    · simp [h]
  have e2 : (entries.modify m fun e => { e with key := k, val := xv }).toList.map (·.val) = (entries.toList.map (·.val)).set m xv := by
    apply List.ext_getElem?
    intro i
    simp only [List.getElem?_map, Array.getElem?_toList, Array.getElem?_modify, List.getElem?_set, List.length_map, Array.length_toList]
    by_cases h : m = i
    · subst h
      by_cases hl : m < entries.size <;> simp [hl]
    · simp [h]
  have e3 : (entries.modify m fun e => { e with key := k, val := xv }).toList.map (·.born) = entries.toList.map (·.born) := by
    apply List.ext_getElem?
    intro i
    simp only [List.getElem?_map, Array.getElem?_toList, Array.getElem?_modify]
    by_cases h : m = i
    · subst h
      by_cases hl : m < entries.size <;> simp [hl]
    · simp [h]
  refine ⟨?_, ?_, e3⟩
  · rw [e1, ← hk]; simp [List.map_set]
  · rw [e2]
    have : (es.set m (k, x)).map (·.2) = (es.map (·.2)).set m x := by simp [List.map_set]
    rw [this]
    exact hr.set m hx

theorem s_mapUpdate (h : Sim C env σ w S a.tmps) (hd0 : a.defers = C.ds) (hN : dstOk N o.dst) (hnx : ∀ a w, NX C next a w → nx a w) {T : TypeId} {m k x : Operand} (ho : o.op = .mapUpdate T m k x ∨ o.op = .insert T m k x)
    (hv : vcRes P Qp next o.dst env σ (aMapUpdate P σ T (ev env m) (ev env k) (ev env x))) : o.wp P a w nx Q := by
  unfold aMapUpdate at hv
  split at hv
  · rename_i d e kv b hT hkv hm
    obtain ⟨kt, hT1, hT2⟩ := rmap_eq hT
    have hk := toV_rep hkv (ev_rep h k)
    have hmr := ev_rep h m
    rw [hm] at hmr
    have hmv := map_inv hmr
    have hx := ev_rep h x
    split at hv
    · rename_i es hs
      obtain ⟨⟨h1, h2⟩, hk'⟩ := hv
      obtain ⟨hSb, hobj⟩ := h.store b _ hs
      obtain ⟨entries, clock, hh, hr, hke, hborn, hnd⟩ := hobj
      have hlt := (Array.getElem?_eq_some_iff.1 hh).1
      have hget : (getObj b).run P w = .ok (.map entries clock) w := by simp [getObj, Sem.run, hh]
      have main : ∃ ob, (Instr.mapUpdate T (a.eval m) (a.eval k) (a.eval x)).run P w = .ok () { w with heap := w.heap.setIfInBounds b ob } ∧
          (∀ w' S', Ev w S w' S' → w'.heap[b]? = some ob → RepObj w' S' b (.mp (mset kv (ev env x) es))) := by
        rcases findNow_ok entries.toList es 0 hke hr h2 with ⟨f1, f2, f3, _⟩ | ⟨j, f, p, f1, f2, f3, f4, f5, f6, f7, f8, f9⟩
        · refine ⟨.map (entries.push { key := kv, val := a.eval x, born := clock }) (clock + 1), ?_, ?_⟩
          · have hset : (setObj b (.map (entries.push { key := kv, val := a.eval x, born := clock }) (clock + 1))).run P w = .ok () { w with heap := w.heap.setIfInBounds b (.map (entries.push { key := kv, val := a.eval x, born := clock }) (clock + 1)) } := by
              simp [setObj, Sem.run, hh]
            unfold Instr.mapUpdate
            simp only [Sem.run_bind, run_underlying hT1, Result.andThen_ok, hmv, hget, checkKey_ok _ hT2 h1, hk, findKey_ok hT2 f1]
            exact hset
          · intro w' S' hE hb'
            refine ⟨_, _, hb', ?_, ?_, ?_, ?_⟩
            · rw [f3]; simpa using (hr.ev hE).append (.one (hx.ev hE))
            · rw [f3]; simp [hke]
            · intro e he
              simp only [Array.toList_push, List.mem_append, List.mem_singleton] at he
              rcases he with he | rfl
              · have := hborn e he; omega
              · exact Nat.lt_succ_self _
            · simp only [Array.toList_push, List.map_append, List.map_cons, List.map_nil]
              rw [List.nodup_append]
              refine ⟨hnd, by simp, ?_⟩
              intro x hx y hy
              obtain ⟨e, he, rfl⟩ := List.mem_map.1 hx
              have := hborn e he
              simp at hy
              omega
        · refine ⟨.map (entries.modify (0 + j) fun e => { e with key := kv, val := a.eval x }) clock, ?_, ?_⟩
          · have hset : (setObj b (.map (entries.modify (0 + j) fun e => { e with key := kv, val := a.eval x }) clock)).run P w = .ok () { w with heap := w.heap.setIfInBounds b (.map (entries.modify (0 + j) fun e => { e with key := kv, val := a.eval x }) clock) } := by
              simp [setObj, Sem.run, hh]
            have hst : (Instr.keyThatStays (((entries[0 + j]?).map (·.key)).getD kv) kv).run P w = .ok kv w := by
              have : entries[0 + j]? = some f := by simpa using f2
              rw [this]; exact stays_ok f6
            unfold Instr.mapUpdate
            simp only [Sem.run_bind, run_underlying hT1, Result.andThen_ok, hmv, hget, checkKey_ok _ hT2 h1, hk, findKey_ok hT2 f1, hst]
            exact hset
          · intro w' S' hE hb'
            obtain ⟨g1, g2, g3⟩ := set_entries (m := 0 + j) (k := kv) hke (hr.ev hE) (hx.ev hE)
            refine ⟨_, _, hb', ?_, ?_, ?_, ?_⟩
            · rw [f8]; simpa using g2
            · rw [f8]; simpa using g1
            · intro e he
              have : e.born ∈ (entries.modify (0 + j) fun e => { e with key := kv, val := a.eval x }).toList.map (·.born) := List.mem_map.2 ⟨e, he, rfl⟩
              rw [g3] at this
              obtain ⟨e', he', hb⟩ := List.mem_map.1 this
              rw [← hb]; exact hborn e' he'
            · rw [g3]; exact hnd
      obtain ⟨ob, hrun, hrep⟩ := main
      obtain ⟨hfr, hother, hself⟩ := fr_map (σ := σ) (y := .mp (mset kv (ev env x) es)) (ob := ob) h.fr.lt hs ⟨entries, clock, .inl hh⟩ rfl
      have hE := sim_ev h hfr
      exact step_skip_ok h hd0 hN hnx (by rcases ho with ho | ho <;> (simp only [execOp, ho]; rw [Sem.run_bind, hrun]; rfl)) (store_row h.store hE hother hSb (hrep _ _ hE (hself hlt))) hfr hk'
    · exact hv.elim
  · exact hv.elim

theorem ptr_iter {b : Nat} {v : Value} (h : Rep w S (.ptr b 0 0 0) v) : v = .pointer (some ⟨b, 0, none⟩) := by cases h; rfl

theorem s_range (h : Sim C env σ w S a.tmps) (hd0 : a.defers = C.ds) (hN : dstOk N o.dst) (hnx : ∀ a w, NX C next a w → nx a w) {T : TypeId} {x : Operand} (ho : o.op = .range T x)
    (hv : vcRes P Qp next o.dst env σ (aRange P T (ev env x))) : o.wp P a w nx Q := by
  unfold aRange at hv
  split at hv
  · rename_i s hT hd
    have hx := ev_rep h x
    rw [hd] at hx
    refine step_new h hd0 hN hnx (ob := .stringIter s 0) (x := .sit s 0) (d := .ptr w.heap.size 0 0 0) (v := .pointer (some ⟨w.heap.size, 0, none⟩)) ?_ (heap_alloc w _) (by simpa using (Rep.ptr (sz := 0) (i := 0) (o := 0) : Rep (w.alloc (.stringIter s 0)) S (.ptr w.heap.size 0 0 0) _)) (hv.2 _ (not_sdom_size h.store))
    simp [execOp, ho, hx.v_inv, Instr.range, run_underlying hT]
  · exact hv.elim

theorem vcRes_ite {c : Prop} [Decidable c] {dst : Option Nat} {x y : ARes} (hv : vcRes P Qp next dst env σ (if c then x else y)) : (c ∧ vcRes P Qp next dst env σ x) ∨ (¬ c ∧ vcRes P Qp next dst env σ y) := by
  by_cases hc : c
  · rw [if_pos hc] at hv; exact .inl ⟨hc, hv⟩
  · rw [if_neg hc] at hv; exact .inr ⟨hc, hv⟩

theorem s_next (h : Sim C env σ w S a.tmps) (hd0 : a.defers = C.ds) (hN : dstOk N o.dst) (hnx : ∀ a w, NX C next a w → nx a w) {x : Operand} {b : Bool} (ho : o.op = .next x b)
    (hv : vcRes P Qp next o.dst env σ (aNext σ (ev env x) b)) : o.wp P a w nx Q := by
  unfold aNext at hv
  split at hv
  · rename_i b' hd
    have hx := ev_rep h x
    rw [hd] at hx
    have hxe := ptr_iter hx
    split at hv
    · rename_i s p hs
      obtain ⟨hSb, hobj⟩ := h.store b' _ hs
      have hh : w.heap[b']? = some (.stringIter s p) := hobj
      have hlt := (Array.getElem?_eq_some_iff.1 hh).1
      have hget : (getObj b').run P w = .ok (.stringIter s p) w := by simp [getObj, Sem.run, hh]
      rcases vcRes_ite hv with ⟨hp, hv⟩ | ⟨hp, hv⟩
      · have hset : (setObj b' (.stringIter s (p + (Utf8.decode s p).2))).run P w = .ok () { w with heap := w.heap.setIfInBounds b' (.stringIter s (p + (Utf8.decode s p).2)) } := by
          simp [setObj, Sem.run, hh]
        obtain ⟨hfr, hother, hself⟩ := fr_map (σ := σ) (y := .sit s (p + (Utf8.decode s p).2)) (ob := .stringIter s (p + (Utf8.decode s p).2)) h.fr.lt hs ⟨#[], 0, .inr ⟨s, p, hh⟩⟩ rfl
        have hE := sim_ev h hfr
        refine step_ok h hd0 hN hnx (v := .tuple #[.bool true, goInt p, .int .i32 (Utf8.decode s p).1]) ?_ (.tup (.cons (.v rfl) (.cons (.v rfl) (.cons (.v rfl) .nil)))) (store_row (y := .sit s (p + (Utf8.decode s p).2)) h.store hE hother hSb (hself hlt)) hfr hv.2
        simp only [execOp, ho, hxe]
        unfold Instr.next
        simp only [Sem.run_bind, hget, Result.andThen_ok, if_pos hp, hset, Sem.run_pure]
      · refine step_val h hd0 hN hnx (v := .tuple #[.bool false]) ?_ (.tup (.cons (.v rfl) .nil)) hv.2
        simp only [execOp, ho, hxe]
        unfold Instr.next
        simp only [Sem.run_bind, hget, Result.andThen_ok, if_neg hp, Sem.run_pure]
    · exact hv.elim
  · exact hv.elim

end steps
end Go.Ab
