/- A part of a proof about the given program: the abstract machine, what functions compute, laid in few texts. -/
import Derived.Test.YticjnnmnjfpopaaGreatDoorKTb
import Derived.Recover
import Derived.Deep.Slices
import Derived.Below
import Derived.ChangeSame
import Derived.Carry
import Derived.ProofKit
import Derived.Conc.LoneSelect
set_option linter.unusedSimpArgs false
set_option linter.unusedVariables false
set_option linter.constructorNameAsVariable false
namespace Go.Ab
open Go
theorem sget_append (b : Nat) (σ ρ : Store) : sget b (σ ++ ρ) = match sget b σ with | some o => some o | none => sget b ρ := by
  induction σ with
  | nil => rfl
  | cons p r ih =>
    obtain ⟨c, o⟩ := p
    rw [List.cons_append, sget_cons, sget_cons]
    split
    · rfl
    · exact ih
theorem sget_append_none {b : Nat} {σ ρ : Store} (h : sget b σ = none) : sget b (σ ++ ρ) = sget b ρ := by rw [sget_append, h]
theorem sget_append_some {b : Nat} {σ ρ : Store} {o : AObj} (h : sget b σ = some o) : sget b (σ ++ ρ) = some o := by rw [sget_append, h]
def Apart (ρ σ : Store) : Prop := ∀ b, sget b ρ ≠ none → sget b σ = none
theorem Apart.nil (σ : Store) : Apart [] σ := fun b h => absurd rfl h
theorem Apart.nil_right (ρ : Store) : Apart ρ [] := fun _ _ => rfl
theorem Apart.cons {ρ σ : Store} {b : Nat} {o : AObj} (h : sget b σ = none) (k : Apart ρ σ) : Apart ((b, o) :: ρ) σ := fun c hc => by
  rw [sget_cons] at hc
  split at hc
  · rename_i hcb; rw [hcb]; exact h
  · exact k c hc
theorem Apart.append {ρ ρ' σ : Store} (h : Apart ρ σ) (k : Apart ρ' σ) : Apart (ρ ++ ρ') σ := fun c hc => by
  rw [sget_append] at hc
  split at hc
  · rename_i o ho; exact h c (by rw [ho]; simp)
  · exact k c hc
theorem Apart.symm {ρ σ : Store} (h : Apart ρ σ) : Apart σ ρ := fun b hb => by
  cases hr : sget b ρ with
  | none => rfl
  | some o => exact absurd (h b (by rw [hr]; simp)) hb
theorem SLe.nil (σ : Store) : SLe [] σ := fun b o h => by simp at h
theorem SLe.cons {σ σ' : Store} {b : Nat} {o : AObj} (h : sget b σ' = some o) (k : SLe σ σ') : SLe ((b, o) :: σ) σ' := fun c x hc => by
  rw [sget_cons] at hc
  split at hc
  · rename_i hcb; cases hc; rw [hcb]; exact h
  · exact k c x hc
theorem SLe.append_left (σ ρ : Store) : SLe σ (σ ++ ρ) := fun b o h => sget_append_some h
theorem SLe.append_right {σ ρ : Store} (h : Apart ρ σ) : SLe ρ (σ ++ ρ) := fun b o hb => by
  rw [sget_append_none (h b (by rw [hb]; simp))]; exact hb
theorem SLe.append {σ ρ τ : Store} (h : SLe σ τ) (k : SLe ρ τ) : SLe (σ ++ ρ) τ := fun b o hb => by
  rw [sget_append] at hb
  split at hb
  · rename_i o' ho; cases hb; exact h b _ ho
  · exact k b o hb
section
variable {P : Program} {N : Slots} {C : Ctx P N} {f : FuncId} {args : List D} {σ σ1 ρ : Store} {R R' : AEnd → Store → Prop}
theorem AC.frame (h : AC P f args σ1 R) (h1 : SLe σ1 σ) (h2 : SLe ρ σ) (h3 : Apart ρ σ1) :
    AC P f args σ (fun e σ' => ∃ σ1', R e σ1' ∧ Apart ρ σ1' ∧ σ' = σ1' ++ ρ) := by
  intro w S vs hS hst hv
  refine (h w S vs hS (hst.le h1) hv).mono ?_
  rintro e w' ⟨ae, σ1', S', hR, hend, hst', hfr⟩
  have hap : Apart ρ σ1' := fun b hb => by
    cases hs : sget b σ1' with
    | none => rfl
    | some o =>
      obtain ⟨x, hx⟩ := Option.ne_none_iff_exists'.1 hb
      rcases hfr.dom b (by unfold sdom; rw [hs]; simp) with hd | hd
      · exact absurd (h3 b hb) hd
      · have := (hst b x (h2 b x hx)).2.lt; omega
  have hE : Ev w S w' S' := hfr.ev fun b hb => ⟨hS.lt b hb, fun hd => by
    unfold sdom at hd
    cases hs : sget b σ1 with
    | none => exact hd hs
    | some o => exact (hst b o (h1 b o hs)).1 hb⟩
  refine ⟨ae, σ1' ++ ρ, S', ⟨σ1', hR, hap, rfl⟩, hend, fun b o hb => ?_, { hfr with block := fun b hb hd => ?_, new := fun b hb => ?_, dom := fun b hb => ?_ }⟩
  · rw [sget_append] at hb
    split at hb
    · rename_i x hx; cases hb; exact hst' b _ hx
    · have hr := hst b o (h2 b o hb)
      have hn : ¬ sdom σ1 b := fun hd => hd (h3 b (by rw [hb]; simp))
      have hlt := hr.2.lt
      refine ⟨fun hs => ?_, hr.2.ev hE (hfr.block b hlt hn)⟩
      rcases hfr.new b hs with h4 | h4 | h4
      · exact hr.1 h4
      · exact hn h4
      · omega
  · exact hfr.block b hb fun hd1 => hd (by
      unfold sdom at *
      cases hs : sget b σ1 with
      | none => exact absurd hs hd1
      | some o => rw [h1 b o hs]; simp)
  · rcases hfr.new b hb with h4 | h4 | h4
    · exact .inl h4
    · refine .inr (.inl ?_)
      unfold sdom at *
      cases hs : sget b σ1 with
      | none => exact absurd hs h4
      | some o => rw [h1 b o hs]; simp
    · exact .inr (.inr h4)
  · unfold sdom at hb
    rw [sget_append] at hb
    split at hb
    · rename_i x hx
      rcases hfr.dom b (by unfold sdom; rw [hx]; simp) with h4 | h4
      · refine .inl ?_
        unfold sdom at *
        cases hs : sget b σ1 with
        | none => exact absurd hs h4
        | some o => rw [h1 b o hs]; simp
      · exact .inr h4
    · refine .inl ?_
      unfold sdom
      cases hs : sget b ρ with
      | none => exact absurd hs hb
      | some o => rw [h2 b o hs]; simp
theorem AC.quiet (h : AC P f args [] R) : AC P f args σ (fun e σ' => ∃ σ1', R e σ1' ∧ Apart σ σ1' ∧ σ' = σ1' ++ σ) := h.frame (SLe.nil _) (SLe.refl _) (Apart.nil_right _)
theorem AC.store_le (h : AC P f args σ1 R) (h1 : SLe σ1 σ) : AC P f args σ R := by
  intro w S vs hS hst hv
  refine (h w S vs hS (hst.le h1) hv).mono ?_
  rintro e w' ⟨ae, σ1', S', hR, hend, hst', hfr⟩
  refine ⟨ae, σ1', S', hR, hend, hst', { hfr with block := fun b hb hd => hfr.block b hb fun hd1 => hd ?_, new := fun b hb => ?_, dom := fun b hb => ?_ }⟩
  · unfold sdom at *
    cases hs : sget b σ1 with
    | none => exact absurd hs hd1
    | some o => rw [h1 b o hs]; simp
  · rcases hfr.new b hb with h4 | h4 | h4
    · exact .inl h4
    · refine .inr (.inl ?_)
      unfold sdom at *
      cases hs : sget b σ1 with
      | none => exact absurd hs h4
      | some o => rw [h1 b o hs]; simp
    · exact .inr (.inr h4)
  · rcases hfr.dom b hb with h4 | h4
    · refine .inl ?_
      unfold sdom at *
      cases hs : sget b σ1 with
      | none => exact absurd hs h4
      | some o => rw [h1 b o hs]; simp
    · exact .inr h4
end
end Go.Ab
namespace Go.Ab
open Go
attribute [go_sem] Nat.reduceEqDiff Nat.reduceBEq Int.reduceBEq Int.reduceBNe Nat.reduceLT Nat.reduceLeDiff Nat.reduceAdd Nat.reduceSub Nat.reduceMul Int.reduceToNat Int.reduceEq Int.reduceLT Int.reduceLE reduceCtorEq
attribute [go_sem ↓] reduceIte
attribute [go_sem] aopD aopL litB aBuild0 Fixed inB isNone Keep dsts gd gset dstB rebase eget eput eputo ev aop aPick aAlloc aBox aLoad aStore aNilCheck aEq aNil ifcNil isIfc noSl noPtr aIndexAddr aIndex aSlice aSliceArr aFieldAddr aField aBuild aFill aBuildSlice aFillSlice aMakeSlice aLookup aFound aMapUpdate aDelete aTA aClear aRange aNext aLen srcOf aAppend aBuiltin aExtract
  getc getcOk putc ixOf optIx okV ofV toV toVs scal initEnv cev resD resOne resPre byteOf isByte bD Value.oneCell'
attribute [go_sem] List.contains_cons List.contains_nil List.mem_cons List.not_mem_nil or_false false_or or_true true_or List.map_cons List.map_nil List.append_nil List.nil_append List.cons_append List.zipIdx_cons List.zipIdx_nil List.take_succ_cons List.take_zero List.take_nil List.drop_succ_cons List.drop_zero List.drop_nil List.length_cons List.length_nil List.headD_cons List.getD_cons_zero List.getD_cons_succ
  List.getElem?_cons_zero List.getElem?_cons_succ List.getElem?_nil List.getElem?_toArray List.replicate_zero List.replicate_succ List.set_cons_zero Option.isSome_some Option.isSome_none ne_eq  List.set_cons_succ List.all_cons List.all_nil Option.map_some Option.map_none Option.bind_some Option.bind_none Option.getD_some Option.getD_none Option.some.injEq Option.isSome_some Option.isSome_none
  Array.toList_map List.all_eq_true true_and and_true and_self if_true if_false forall_const not_true_eq_false not_false_eq_true Bool.true_eq_false Bool.false_eq_true true_implies false_implies implies_true Bool.not_true Bool.not_false Bool.and_true Bool.true_and Bool.or_false Bool.false_or Bool.and_false Bool.false_and Bool.or_true Bool.true_or
  Int.toNat_natCast Int.toNat_zero Int.toNat_one
def gTup (d : D) : Bool := match d with | .tup [] => true | _ => false
def gBool (d : D) : Bool := match d with | .v (.bool _) => true | _ => false
def gIs (d : D) : Bool := match d with | .v (.bool t) => t | _ => false
@[go_sem] theorem gTup_tup : gTup (.tup []) = true := rfl
@[go_sem] theorem gTup_bool (t : Bool) : gTup (.v (.bool t)) = false := rfl
@[go_sem] theorem gBool_bool (t : Bool) : gBool (.v (.bool t)) = true := rfl
@[go_sem] theorem gIs_bool (t : Bool) : gIs (.v (.bool t)) = t := rfl
theorem guard_eq (d : D) (w : Bool) (A B s : Prop) : (match d with | .v (.bool t) => (t = w → A) ∧ (t = !w → B) | .tup [] => s | _ => False) = (if gTup d = true then s else if gBool d = true then (if gIs d = w then A else B) else False) := by
  split
  · rename_i t
    simp only [gTup_bool, gBool_bool, gIs_bool, Bool.false_eq_true, if_false, if_true]
    cases t <;> cases w <;> simp
  · rfl
  · rename_i h1 h2
    have e1 : gTup d = false := by
      unfold gTup
      split
      · exact absurd rfl h2
      · rfl
    have e2 : gBool d = false := by
      unfold gBool
      split
      · rename_i t; exact absurd rfl (h1 t)
      · rfl
    rw [e1, e2]; simp
def opK (o : Option Oper) (f : Oper → Prop) : Prop := match o with | some o => f o | none => False
@[go_sem] theorem opK_some (o : Oper) (f : Oper → Prop) : opK (some o) f = f o := rfl
@[go_sem] theorem lkFree_nil (k : Nat) : lkFree [] k = True := rfl
@[go_sem] theorem lkFree_cons (p : Nat × Value) (r : List (Nat × Value)) (k : Nat) : lkFree (p :: r) k = (p.1 ≠ k ∧ lkFree r k) := rfl
section
variable {P : Program} {N : Slots} {ds : List (Option Nat)} {K next : Env → Store → Prop} {Qp : D → Store → Prop} {env : Env} {σ σ' : Store} {dst : Option Nat} {op : Op} {ty : TypeId} {pos : String} {after : Array Edge} {rest : List Oper} {lit bs lasts : List Nat} {ops : Array Oper} {pre : Prop} {d : D} {ob : AObj} {b : Option Nat} {sz : Nat} {xs : List D} {f : FuncId} {as' : List D}
@[go_sem] theorem vcRes_val : vcRes P Qp next dst env σ (.val pre d) = (pre ∧ next (eputo dst d env) σ) := rfl
@[go_sem] theorem vcRes_nd (ok : Bool → Prop) (f : Bool → D) : vcRes P Qp next dst env σ (.nd ok f) = ∀ t, ok t → next (eputo dst (f t) env) σ := rfl
@[go_sem] theorem vcRes_upd : vcRes P Qp next dst env σ (.upd pre d σ') = (pre ∧ next (eputo dst d env) σ') := rfl
@[go_sem] theorem vcRes_new (mk : Nat → D) : vcRes P Qp next dst env σ (.new pre ob mk) = (pre ∧ ∀ b, sget b σ = none → next (eputo dst (mk b) env) ((b, ob) :: σ)) := rfl
@[go_sem] theorem vcRes_app : vcRes P Qp next dst env σ (.app pre b sz xs) = (pre ∧ ∀ ob : Option Nat, (ob = none → xs = []) → Fresh ob (sdelo b σ) → next (eputo dst (.own ob sz xs.length) env) (cellsOf ob sz xs ++ sdelo b σ)) := rfl
@[go_sem] theorem vcRes_enter : vcRes P Qp next dst env σ (.enter f as') = VCall P Qp next dst env σ f as' := rfl
@[go_sem] theorem vcRes_panic : vcRes P Qp next dst env σ (.panic d) = Qp d σ := rfl
@[go_sem] theorem vcRes_bad : vcRes P Qp next dst env σ .bad = False := rfl
@[go_sem] theorem vcL_nil : vcL P N ds K Qp [] env σ = K env σ := rfl
@[go_sem] theorem vcL_none : vcL P N ds K Qp ({ dst := dst, op := op, type := ty, pos := pos, after := after, guard := none } :: rest) env σ = (dstB N dst ∧ vcRes P Qp (vcL P N ds K Qp rest) dst env σ (aop P env σ op)) := rfl
@[go_sem] theorem vcL_some (j : Nat) (w : Bool) : vcL P N ds K Qp ({ dst := dst, op := op, type := ty, pos := pos, after := after, guard := some (j, w) } :: rest) env σ = (dstB N dst ∧ if gTup (gd env ds j) = true then vcL P N ds K Qp rest (eputo dst (.tup []) env) σ else if gBool (gd env ds j) = true then
    (if gIs (gd env ds j) = w then vcRes P Qp (vcL P N ds K Qp rest) dst (gset env ds j w) σ (aop P (gset env ds j w) σ op) else vcL P N ds K Qp rest (eputo dst (.tup []) (gset env ds j (!w))) σ) else False) := by
  rw [vcL]
  exact congrArg _ (guard_eq (gd env ds j) w _ _ _)
@[go_sem] theorem vcStep_none : vcStep P N lit ds Qp next { dst := dst, op := op, type := ty, pos := pos, after := after, guard := none } env σ = (dstB N dst ∧ vcRes P Qp next dst env σ (aopD P lit env σ { dst := dst, op := op, type := ty, pos := pos, after := after, guard := none })) := rfl
@[go_sem] theorem vcStep_some (j : Nat) (w : Bool) : vcStep P N lit ds Qp next { dst := dst, op := op, type := ty, pos := pos, after := after, guard := some (j, w) } env σ = (dstB N dst ∧ if gTup (gd env ds j) = true then next (eputo dst (.tup []) env) σ else if gBool (gd env ds j) = true then
    (if gIs (gd env ds j) = w then vcRes P Qp next dst env σ (aopD P lit env σ { dst := dst, op := op, type := ty, pos := pos, after := after, guard := some (j, w) }) else next (eputo dst (.tup []) env) σ) else False) := by
  rw [vcStep]
  exact congrArg _ (guard_eq (gd env ds j) w _ _ _)
@[go_sem] theorem vcM_nil : vcM P N lit ds K Qp [] env σ = K env σ := rfl
@[go_sem] theorem vcM_cons (o : Oper) : vcM P N lit ds K Qp (o :: rest) env σ = vcStep P N lit ds Qp (vcM P N lit ds K Qp rest) o env σ := rfl
@[go_sem] theorem vcD_nil : vcD P N lit bs lasts ops K Qp [] env σ = K env σ := rfl
@[go_sem] theorem vcD_true (i : Nat) (r : List (Nat × Bool)) : vcD P N lit bs lasts ops K Qp ((i, true) :: r) env σ = opK ops[i]? fun o => Fixed lit bs env o ∧ vcStep P N lit (dsts ops) Qp (vcD P N lit bs lasts ops K Qp r) o env σ := by
  simp only [vcD, opK, if_true]
  cases ops[i]? <;> rfl
@[go_sem] theorem vcD_false (i : Nat) (r : List (Nat × Bool)) : vcD P N lit bs lasts ops K Qp ((i, false) :: r) env σ = opK ops[i]? fun o => vcStep P N lit (dsts ops) Qp (fun env' σ' => Keep bs lasts i σ σ' ∧ vcD P N lit bs lasts ops K Qp r env' σ') o env σ := by
  simp only [vcD, opK, Bool.false_eq_true, if_false]
  cases ops[i]? <;> rfl
@[go_sem] theorem ro_val : roRes (.val pre d) = .val pre d := rfl
@[go_sem] theorem ro_new (mk : Nat → D) : roRes (.new pre (.arr sz xs) mk) = .val (pre ∧ ∀ b, mk b = .own (some b) sz xs.length) (.slc xs) := rfl
@[go_sem] theorem ro_app : roRes (.app pre none sz xs) = .val pre (.slc xs) := rfl
end
section
@[go_sem] theorem cells_v (x : Value) : (D.v x).cells = [D.v x] := rfl
@[go_sem] theorem cell_v (x : Value) : (D.v x).cell = true := rfl
@[go_sem] theorem plain_v (x : Value) : (D.v x).plain = true := rfl
@[go_sem] theorem cells_ptr (b sz i o : Nat) : (D.ptr b sz i o).cells = [D.ptr b sz i o] := rfl
@[go_sem] theorem cell_ptr (b sz i o : Nat) : (D.ptr b sz i o).cell = true := rfl
@[go_sem] theorem plain_ptr (b sz i o : Nat) : (D.ptr b sz i o).plain = true := rfl
@[go_sem] theorem cells_elt (cs : List D) : (D.elt cs).cells = [D.elt cs] := rfl
@[go_sem] theorem cell_elt (cs : List D) : (D.elt cs).cell = true := rfl
@[go_sem] theorem plain_elt (cs : List D) : (D.elt cs).plain = true := rfl
@[go_sem] theorem cells_slc (xs : List D) : (D.slc xs).cells = [D.slc xs] := rfl
@[go_sem] theorem cell_slc (xs : List D) : (D.slc xs).cell = true := rfl
@[go_sem] theorem plain_slc (xs : List D) : (D.slc xs).plain = true := rfl
@[go_sem] theorem cells_own (b : Option Nat) (sz n : Nat) : (D.own b sz n).cells = [D.own b sz n] := rfl
@[go_sem] theorem cell_own (b : Option Nat) (sz n : Nat) : (D.own b sz n).cell = true := rfl
@[go_sem] theorem plain_own (b : Option Nat) (sz n : Nat) : (D.own b sz n).plain = true := rfl
@[go_sem] theorem cells_win (b sz o n : Nat) : (D.win b sz o n).cells = [D.win b sz o n] := rfl
@[go_sem] theorem cell_win (b sz o n : Nat) : (D.win b sz o n).cell = true := rfl
@[go_sem] theorem plain_win (b sz o n : Nat) : (D.win b sz o n).plain = true := rfl
@[go_sem] theorem cells_map (b : Nat) : (D.map b).cells = [D.map b] := rfl
@[go_sem] theorem cell_map (b : Nat) : (D.map b).cell = true := rfl
@[go_sem] theorem plain_map (b : Nat) : (D.map b).plain = true := rfl
@[go_sem] theorem cells_clo (f : Fn) (a c : List D) : (D.clo f a c).cells = [D.clo f a c] := rfl
@[go_sem] theorem cell_clo (f : Fn) (a c : List D) : (D.clo f a c).cell = true := rfl
@[go_sem] theorem plain_clo (f : Fn) (a c : List D) : (D.clo f a c).plain = true := rfl
@[go_sem] theorem cells_ifc (t : TypeId) (x : D) : (D.ifc t x).cells = [D.ifc t x] := rfl
@[go_sem] theorem cell_ifc (t : TypeId) (x : D) : (D.ifc t x).cell = true := rfl
@[go_sem] theorem plain_ifc (t : TypeId) (x : D) : (D.ifc t x).plain = true := rfl
@[go_sem] theorem cells_agg (cs : List D) : (D.agg cs).cells = cs := rfl
@[go_sem] theorem cell_agg (cs : List D) : (D.agg cs).cell = false := rfl
@[go_sem] theorem plain_agg (cs : List D) : (D.agg cs).plain = cs.all D.cell := rfl
variable {σ : Store} {b c sz : Nat} {o x : AObj} {xs : List D} {ob : Option Nat}
@[go_sem] theorem cellsOf_some : cellsOf (some b) sz xs = [(b, .arr sz xs)] := rfl
@[go_sem] theorem cellsOf_none : cellsOf none sz xs = [] := rfl
@[go_sem] theorem sdelo_none : sdelo none σ = σ := rfl
@[go_sem] theorem sdelo_some : sdelo (some b) σ = sdel b σ := rfl
@[go_sem] theorem sget_nil' : sget b [] = none := rfl
@[go_sem] theorem sget_self' : sget b ((b, o) :: σ) = some o := sget_self ..
@[go_sem] theorem sget_ne (h : b ≠ c) : sget b ((c, o) :: σ) = sget b σ := by rw [sget_cons, if_neg h]
theorem ne_of_fresh (hc : sget c σ = none) (hb : (sget b σ).isSome = true) : b ≠ c := fun e => by subst e; rw [hc] at hb; cases hb
@[go_sem] theorem sget_fresh (hc : sget c σ = none) (hb : (sget b σ).isSome = true) : sget b ((c, o) :: σ) = sget b σ := sget_ne (ne_of_fresh hc hb)
@[go_sem] theorem sset_self : sset b x ((b, o) :: σ) = (b, x) :: σ := by simp [sset]
@[go_sem] theorem sset_nil : sset b x [] = [] := rfl
@[go_sem] theorem sset_ne (h : b ≠ c) : sset b x ((c, o) :: σ) = (c, o) :: sset b x σ := by simp [sset, h]
@[go_sem] theorem sset_none (h : sget b σ = none) : sset b x σ = σ := by
  induction σ with
  | nil => rfl
  | cons p r ih =>
    obtain ⟨c, o⟩ := p
    rw [sget_cons] at h
    split at h
    · cases h
    · rename_i hbc; rw [sset_ne hbc, ih h]
@[go_sem] theorem sset_fresh (hc : sget c σ = none) (hb : (sget b σ).isSome = true) : sset b x ((c, o) :: σ) = (c, o) :: sset b x σ := sset_ne (ne_of_fresh hc hb)
@[go_sem] theorem sdel_self' : sdel b ((b, o) :: σ) = sdel b σ := sdel_self ..
@[go_sem] theorem sdel_nil : sdel b [] = [] := rfl
@[go_sem] theorem sdel_ne (h : b ≠ c) : sdel b ((c, o) :: σ) = (c, o) :: sdel b σ := by rw [sdel, if_neg h]
@[go_sem] theorem sdel_none (h : sget b σ = none) : sdel b σ = σ := sdel_fresh h
@[go_sem] theorem sdel_fresh' (hc : sget c σ = none) (hb : (sget b σ).isSome = true) : sdel b ((c, o) :: σ) = (c, o) :: sdel b σ := sdel_ne (ne_of_fresh hc hb)
@[go_sem] theorem oget_none' : oget sz none σ = some [] := rfl
@[go_sem] theorem oget_self : oget sz (some b) ((b, .arr sz xs) :: σ) = some xs := by simp [oget]
@[go_sem] theorem oget_cells : oget sz ob (cellsOf ob sz xs ++ σ) = some (if ob = none then [] else xs) := by cases ob <;> simp [oget, cellsOf]
@[go_sem] theorem oget_ne (h : b ≠ c) : oget sz (some b) ((c, o) :: σ) = oget sz (some b) σ := by simp only [oget]; rw [sget_ne h]
theorem oget_some_isSome (h : (oget sz (some b) σ).isSome = true) : (sget b σ).isSome = true := by
  unfold oget at h; cases hs : sget b σ with
  | none => simp [hs] at h
  | some o => rfl
@[go_sem] theorem oget_fresh (hc : sget c σ = none) (hb : (oget sz ob σ).isSome = true) : oget sz ob ((c, o) :: σ) = oget sz ob σ := by
  cases ob with
  | none => rfl
  | some b => exact oget_ne (ne_of_fresh hc (oget_some_isSome hb))
end
@[go_sem] theorem purely_pure {α : Type} (P : Program) (a : α) : purely P (pure a) = some a := rfl
theorem purely_bind' {α β : Type} (P : Program) : ∀ (s : Sem α) (f : α → Sem β), purely P (s.bind f) = (purely P s).bind fun a => purely P (f a)
  | .pure a, f => rfl
  | .program k, f => by simp only [Sem.bind, purely]; exact purely_bind' P (k P) f
  | .mark m k, f => by simp only [Sem.bind, purely]; exact purely_bind' P k f
  | .load .., f | .store .., f | .new .., f | .shape .., f | .freeze .., f | .frozen .., f | .getObj .., f | .setObj .., f | .choose .., f | .sys .., f | .halt .., f => rfl
@[go_sem] theorem purely_bind {α β : Type} (P : Program) (s : Sem α) (f : α → Sem β) : purely P (s >>= f) = (purely P s).bind fun a => purely P (f a) := purely_bind' P s f
@[go_sem] theorem conv_slc (P : Program) (σ : Store) (src dst : TypeId) (xs : List D) : aConv P σ src dst (.slc xs) = .val (isByteSlice P src = true ∧ isStr P dst = true ∧ xs.all isByte = true) (.v (.string (bytesOf xs))) := rfl
@[go_sem] theorem conv_own (P : Program) (σ : Store) (src dst : TypeId) (ob : Option Nat) (sz n : Nat) : aConv P σ src dst (.own ob sz n) = match oget 1 ob σ with
    | some xs => .val (isByteSlice P src = true ∧ isStr P dst = true ∧ xs.all isByte = true ∧ n ≤ xs.length) (.v (.string (bytesOf (xs.take n))))
    | none => .bad := rfl
@[go_sem] theorem conv_win (P : Program) (σ : Store) (src dst : TypeId) (b sz off n : Nat) : aConv P σ src dst (.win b sz off n) = match oget 1 (some b) σ with
    | some xs => .val (isByteSlice P src = true ∧ isStr P dst = true ∧ xs.all isByte = true ∧ off + n ≤ xs.length ∧ sz = 1) (.v (.string (bytesOf ((xs.drop off).take n))))
    | none => .bad := rfl
section
variable (P : Program) (σ : Store) (T : TypeId) (lo hi mx : Option D)
@[go_sem] theorem sliceS_v (x : Value) : aSliceS P σ T (.v x) lo hi mx = aSlice P T (.v x) lo hi mx := rfl
@[go_sem] theorem sliceS_slc (xs : List D) : aSliceS P σ T (.slc xs) lo hi mx = aSlice P T (.slc xs) lo hi mx := rfl
@[go_sem] theorem sliceS_own (b : Option Nat) (sz n : Nat) : aSliceS P σ T (.own b sz n) lo hi mx = aSlice P T (.own b sz n) lo hi mx := rfl
@[go_sem] theorem sliceS_win (b sz o n : Nat) : aSliceS P σ T (.win b sz o n) lo hi mx = aSlice P T (.win b sz o n) lo hi mx := rfl
@[go_sem] theorem sliceS_ptr (b sz j o : Nat) : aSliceS P σ T (.ptr b sz j o) lo hi mx = aSliceArr P σ T b sz j o lo hi mx := rfl
end
@[go_sem] theorem conv_str (P : Program) (σ : Store) (src dst : TypeId) (s : ByteArray) : aConv P σ src dst (.v (.string s)) =
    if isByteSlice P dst = true ∧ isStr P src = true then .new (s.size < 2 ^ 46) (.arr 1 (s.data.toList.map bD)) (fun b => .own (some b) 1 s.size)
    else scal P (convert src dst (.string s)) := rfl
section
variable (P : Program) (T : TypeId) (x y : Operand)
@[go_sem] theorem bin_add (k : IntKind) (a b : Int) : aBin P .add T x y (.v (.int k a)) (.v (.int k b)) = .val True (.v (.int k (k.wrap (a + b)))) := by simp [aBin, ifcNil, aBin0, toV, scal, eqGuard, binOp, Op.intArith, okV, ofV, purely_pure]
@[go_sem] theorem bin_sub (k : IntKind) (a b : Int) : aBin P .sub T x y (.v (.int k a)) (.v (.int k b)) = .val True (.v (.int k (k.wrap (a - b)))) := by simp [aBin, ifcNil, aBin0, toV, scal, eqGuard, binOp, Op.intArith, okV, ofV, purely_pure]
@[go_sem] theorem bin_mul (k : IntKind) (a b : Int) : aBin P .mul T x y (.v (.int k a)) (.v (.int k b)) = .val True (.v (.int k (k.wrap (a * b)))) := by simp [aBin, ifcNil, aBin0, toV, scal, eqGuard, binOp, Op.intArith, okV, ofV, purely_pure]
@[go_sem] theorem bin_lss (k : IntKind) (a b : Int) : aBin P .lss T x y (.v (.int k a)) (.v (.int k b)) = .val True (.v (.bool (decide (a < b)))) := by simp [aBin, ifcNil, aBin0, toV, scal, eqGuard, binOp, Op.intCmp, okV, ofV, purely_pure]
@[go_sem] theorem bin_leq (k : IntKind) (a b : Int) : aBin P .leq T x y (.v (.int k a)) (.v (.int k b)) = .val True (.v (.bool (decide (a ≤ b)))) := by simp [aBin, ifcNil, aBin0, toV, scal, eqGuard, binOp, Op.intCmp, okV, ofV, purely_pure]
@[go_sem] theorem bin_gtr (k : IntKind) (a b : Int) : aBin P .gtr T x y (.v (.int k a)) (.v (.int k b)) = .val True (.v (.bool (decide (a > b)))) := by simp [aBin, ifcNil, aBin0, toV, scal, eqGuard, binOp, Op.intCmp, okV, ofV, purely_pure]
@[go_sem] theorem bin_geq (k : IntKind) (a b : Int) : aBin P .geq T x y (.v (.int k a)) (.v (.int k b)) = .val True (.v (.bool (decide (a ≥ b)))) := by simp [aBin, ifcNil, aBin0, toV, scal, eqGuard, binOp, Op.intCmp, okV, ofV, purely_pure]
@[go_sem] theorem bin_eql (k : IntKind) (a b : Int) : aBin P .eql T x y (.v (.int k a)) (.v (.int k b)) = .val True (.v (.bool (a == b))) := by simp [aBin, ifcNil, aBin0, toV, scal, eqGuard, binOp, Op.intCmp, okV, ofV, purely_pure]
@[go_sem] theorem bin_neq (k : IntKind) (a b : Int) : aBin P .neq T x y (.v (.int k a)) (.v (.int k b)) = .val True (.v (.bool (a != b))) := by simp [aBin, ifcNil, aBin0, toV, scal, eqGuard, binOp, Op.intCmp, okV, ofV, purely_pure]
@[go_sem] theorem bin_seql (a b : ByteArray) : aBin P .eql T x y (.v (.string a)) (.v (.string b)) = .val True (.v (.bool (a.toList == b.toList))) := by simp [aBin, ifcNil, aBin0, toV, scal, eqGuard, binOp, Op.stringOp, okV, ofV, purely_pure]
@[go_sem] theorem bin_sneq (a b : ByteArray) : aBin P .neq T x y (.v (.string a)) (.v (.string b)) = .val True (.v (.bool !(a.toList == b.toList))) := by simp [aBin, ifcNil, aBin0, toV, scal, eqGuard, binOp, Op.stringOp, okV, ofV, purely_pure]
@[go_sem] theorem bin_sadd (a b : ByteArray) (h : a.size + b.size < 4611686018427387904) : aBin P .add T x y (.v (.string a)) (.v (.string b)) = .val True (.v (.string (a ++ b))) := by
  have h2 : ¬ ((a.size + b.size : Nat) : Int) > IntKind.i64.max := by simp [IntKind.max, IntKind.signed, IntKind.bits]; omega
  simp only [aBin, ifcNil, aBin0, toV, scal, eqGuard, binOp, Op.stringOp]
  rw [if_neg h2]
  simp [okV, ofV, purely_pure]
@[go_sem] theorem bin_slss (a b : ByteArray) : aBin P .lss T x y (.v (.string a)) (.v (.string b)) = .val True (.v (.bool (Op.bytesLess a.toList b.toList))) := by simp [aBin, ifcNil, aBin0, toV, scal, eqGuard, binOp, Op.stringOp, okV, ofV, purely_pure]
@[go_sem] theorem bin_shr (k kb : IntKind) (a : Int) (b : Nat) : aBin P .shr T x y (.v (.int k a)) (.v (.int kb (b : Int))) = .val True (.v (.int k (a.fdiv (2 ^ (min b k.bits))))) := by
  have h : ¬ ((b : Int) < 0) := by omega
  simp [aBin, ifcNil, aBin0, toV, scal, eqGuard, binOp, Op.shift, okV, ofV, purely_pure, h]
@[go_sem] theorem bin_shl (k kb : IntKind) (a : Int) (b : Nat) : aBin P .shl T x y (.v (.int k a)) (.v (.int kb (b : Int))) = .val True (.v (.int k (k.wrap (a * 2 ^ (min b k.bits))))) := by
  have h : ¬ ((b : Int) < 0) := by omega
  simp [aBin, ifcNil, aBin0, toV, scal, eqGuard, binOp, Op.shift, okV, ofV, purely_pure, h]
theorem purely_underlying : purely P (underlying T) = P.underlying T := by
  unfold underlying
  rw [purely_bind]
  show (some P).bind _ = _
  rw [Option.bind_some]
  cases h : P.underlying T <;> simp only [h] <;> rfl
@[go_sem] theorem conv_int (σ : Store) (src dst : TypeId) (k : IntKind) (n : Int) : aConv P σ src dst (.v (.int k n)) = match P.underlying src, P.underlying dst with
    | some _, some (.int k2) => .val True (.v (.int k2 (k2.wrap n)))
    | _, _ => scal P (convert src dst (.int k n)) := by
  show scal P (convert src dst (.int k n)) = _
  split
  · rename_i hs hd
    simp only [scal, convert, purely_bind, purely_underlying, hs, hd, Option.bind_some, Conv.intToInt, purely_pure, okV, ofV, if_true]
  · rfl
@[go_sem] theorem un_not (a : Bool) : aUn P .not (.v (.bool a)) = .val True (.v (.bool !a)) := by simp [aUn, toV, scal, Op.unary, purely_pure, okV, ofV]
end
section
variable (P : Program) (T : TypeId) (x : Operand) (c : Value)
theorem equalIn_nn {P : Program} {T : TypeId} (h : isIfc (P.underlying T) = true) (d : Nat) : purely P (Op.equalIn (d + 1) T .nilIface .nilIface) = some true := by
  have : ∃ ms, P.underlying T = some (.interface ms) := by
    unfold isIfc at h
    split at h
    · exact ⟨_, by assumption⟩
    · cases h
  obtain ⟨ms, hu⟩ := this
  simp only [Op.equalIn, purely_bind, purely_underlying, hu, Option.bind_some, purely_pure]
theorem equal_nn {P : Program} {T : TypeId} (h : isIfc (P.underlying T) = true) : purely P (Op.equal T .nilIface .nilIface) = some true := equalIn_nn h 9999
theorem purely_map {α β : Type} (P : Program) (f : α → β) (s : Sem α) : purely P (f <$> s) = (purely P s).map f := by
  rw [map_eq_pure_bind, purely_bind]
  cases purely P s <;> rfl
@[go_sem] theorem bin_nn_neq (h : isIfc (P.underlying T) = true) : aBin P .neq T x (.const c) (.v .nilIface) (.v .nilIface) = .val True (.v (.bool false)) := by
  simp [aBin, ifcNil, aBin0, toV, scal, eqGuard, binOp, purely_bind, purely_map, equal_nn h, okV, ofV, purely_pure]
@[go_sem] theorem bin_nn_eql (h : isIfc (P.underlying T) = true) : aBin P .eql T x (.const c) (.v .nilIface) (.v .nilIface) = .val True (.v (.bool true)) := by
  simp [aBin, ifcNil, aBin0, toV, scal, eqGuard, binOp, purely_bind, purely_map, equal_nn h, okV, ofV, purely_pure]
end
section
variable (P : Program) (op : BinOp) (T : TypeId) (xo yo : Operand) (y : D)
@[go_sem] theorem bin_of_ptr (b sz i o : Nat) : aBin P op T xo yo (.ptr b sz i o) y =
  match toV (.ptr b sz i o), toV y with
  | some a, some b => scal P (do eqGuard op T xo yo a b; binOp op T a b)
  | _, _ =>
    match op, aEq (P.underlying T) (.ptr b sz i o) y with
    | .eql, some t => .val True (.v (.bool t))
    | .neq, some t => .val True (.v (.bool !t))
    | _, _ =>
      match op, aNil (P.underlying T) (.ptr b sz i o) y with
      | .eql, some ok => .nd ok fun t => .v (.bool t)
      | .neq, some ok => .nd ok fun t => .v (.bool !t)
      | _, _ => .bad := rfl
@[go_sem] theorem bin_of_elt (cs : List D) : aBin P op T xo yo (.elt cs) y =
  match toV (.elt cs), toV y with
  | some a, some b => scal P (do eqGuard op T xo yo a b; binOp op T a b)
  | _, _ =>
    match op, aEq (P.underlying T) (.elt cs) y with
    | .eql, some t => .val True (.v (.bool t))
    | .neq, some t => .val True (.v (.bool !t))
    | _, _ =>
      match op, aNil (P.underlying T) (.elt cs) y with
      | .eql, some ok => .nd ok fun t => .v (.bool t)
      | .neq, some ok => .nd ok fun t => .v (.bool !t)
      | _, _ => .bad := rfl
@[go_sem] theorem bin_of_slc (xs : List D) : aBin P op T xo yo (.slc xs) y =
  match toV (.slc xs), toV y with
  | some a, some b => scal P (do eqGuard op T xo yo a b; binOp op T a b)
  | _, _ =>
    match op, aEq (P.underlying T) (.slc xs) y with
    | .eql, some t => .val True (.v (.bool t))
    | .neq, some t => .val True (.v (.bool !t))
    | _, _ =>
      match op, aNil (P.underlying T) (.slc xs) y with
      | .eql, some ok => .nd ok fun t => .v (.bool t)
      | .neq, some ok => .nd ok fun t => .v (.bool !t)
      | _, _ => .bad := rfl
@[go_sem] theorem bin_of_own (b : Option Nat) (sz n : Nat) : aBin P op T xo yo (.own b sz n) y =
  match toV (.own b sz n), toV y with
  | some a, some b => scal P (do eqGuard op T xo yo a b; binOp op T a b)
  | _, _ =>
    match op, aEq (P.underlying T) (.own b sz n) y with
    | .eql, some t => .val True (.v (.bool t))
    | .neq, some t => .val True (.v (.bool !t))
    | _, _ =>
      match op, aNil (P.underlying T) (.own b sz n) y with
      | .eql, some ok => .nd ok fun t => .v (.bool t)
      | .neq, some ok => .nd ok fun t => .v (.bool !t)
      | _, _ => .bad := rfl
@[go_sem] theorem bin_of_map (b : Nat) : aBin P op T xo yo (.map b) y =
  match toV (.map b), toV y with
  | some a, some b => scal P (do eqGuard op T xo yo a b; binOp op T a b)
  | _, _ =>
    match op, aEq (P.underlying T) (.map b) y with
    | .eql, some t => .val True (.v (.bool t))
    | .neq, some t => .val True (.v (.bool !t))
    | _, _ =>
      match op, aNil (P.underlying T) (.map b) y with
      | .eql, some ok => .nd ok fun t => .v (.bool t)
      | .neq, some ok => .nd ok fun t => .v (.bool !t)
      | _, _ => .bad := rfl
@[go_sem] theorem bin_of_clo (f : Fn) (a c : List D) : aBin P op T xo yo (.clo f a c) y =
  match toV (.clo f a c), toV y with
  | some a, some b => scal P (do eqGuard op T xo yo a b; binOp op T a b)
  | _, _ =>
    match op, aEq (P.underlying T) (.clo f a c) y with
    | .eql, some t => .val True (.v (.bool t))
    | .neq, some t => .val True (.v (.bool !t))
    | _, _ =>
      match op, aNil (P.underlying T) (.clo f a c) y with
      | .eql, some ok => .nd ok fun t => .v (.bool t)
      | .neq, some ok => .nd ok fun t => .v (.bool !t)
      | _, _ => .bad := rfl
@[go_sem] theorem bin0_of_ifc (t : TypeId) (x : D) : aBin0 P op T xo yo (.ifc t x) y =
  match toV (.ifc t x), toV y with
  | some a, some b => scal P (do eqGuard op T xo yo a b; binOp op T a b)
  | _, _ =>
    match op, aEq (P.underlying T) (.ifc t x) y with
    | .eql, some t => .val True (.v (.bool t))
    | .neq, some t => .val True (.v (.bool !t))
    | _, _ =>
      match op, aNil (P.underlying T) (.ifc t x) y with
      | .eql, some ok => .nd ok fun t => .v (.bool t)
      | .neq, some ok => .nd ok fun t => .v (.bool !t)
      | _, _ => .bad := rfl
@[go_sem] theorem bin_of_ifc (t : TypeId) (x : D) : aBin P op T xo yo (.ifc t x) y = match ifcNil (P.underlying T) (.ifc t x) y, op with
  | true, .eql => .val True (.v (.bool false))
  | true, .neq => .val True (.v (.bool true))
  | _, _ => aBin0 P op T xo yo (.ifc t x) y := rfl
end
theorem Gs.while {P : Program} {N : Slots} {C : Ctx P N} {c : Code} {k : List Item} {env : Env} {σ : Store} {α : Type} (I : α → Env → Store → Prop) (μ : α → Nat) (a0 : α) (h0 : I a0 env σ)
    (round : ∀ a env σ, I a env σ → (∀ b env' σ', I b env' σ' → μ b < μ a → Gs C (.inLoop c :: k) env' σ') → Gs C (.code c :: .inLoop c :: k) env σ) : Gs C (.code (.loop c) :: k) env σ := by
  have key : ∀ n a env σ, μ a = n → I a env σ → Gs C (.code c :: .inLoop c :: k) env σ := by
    intro n
    induction n using Nat.strongRecOn with
    | _ n ih =>
      intro a env σ hn hI
      exact round a env σ hI fun b env' σ' hI' hlt => Gs.inLoop (ih (μ b) (by omega) b env' σ' rfl hI')
  exact Gs.loop (key _ a0 env σ rfl h0)
theorem wrap_in (n : Int) (h0 : -9223372036854775808 ≤ n) (h1 : n ≤ 9223372036854775807) : IntKind.i64.wrap n = n := by rw [IntKind.wrap_i64]; omega
theorem wrap_succ (n : Nat) (h : n < 4611686018427387904) : IntKind.i64.wrap ((n : Int) + 1) = ((n + 1 : Nat) : Int) := by rw [IntKind.wrap_i64]; omega
end Go.Ab
namespace Go.Ab
open Go
inductive AMode where
  | ret
  | pan (d : D) (rec : Bool)
def RepMode (w : World) (S : Nat → Prop) : AMode → FrameMode → Prop
  | .ret, .returning => True
  | .pan d r, .panicking chain => ∃ v, chain = [{ v, recovered := r }] ∧ Rep w S d v
  | _, _ => False
theorem RepMode.ev {w w' : World} {S S' : Nat → Prop} {u : AMode} {m : FrameMode} (h : RepMode w S u m) (hE : Ev w S w' S') : RepMode w' S' u m := by
  cases u with
  | ret => cases m <;> exact h
  | pan d r =>
    cases m with
    | panicking chain => obtain ⟨v, h1, h2⟩ := h; exact ⟨v, h1, h2.ev hE⟩
    | returning => exact h
    | run => exact h
def ADCalls (P : Program) (f : FuncId) (args : List D) (u : AMode) (σ : Store) (R : AMode → Store → Prop) : Prop :=
  ∀ (w : World) (S : Nat → Prop) (vs : List Value) (fu : FrameMode), SOk w S → RepStore w S σ → RepL w S args vs → RepMode w S u fu →
    CallsD P f vs.toArray fu w fun e u' w' => (∃ v, e = .returned v) ∧ ∃ au σ' S', R au σ' ∧ RepMode w' S' au u' ∧ RepStore w' S' σ' ∧ Fr w S (sdom σ) w' S' σ'
def EndOkD (P : Program) (f : FuncId) (w0 : World) (S0 : Nat → Prop) (σ0 : Store) (R : AMode → Store → Prop) (c0 : Frame) (cs : List Frame) (m : Machine) : Prop :=
  ∃ e u' w' fr, ((∃ v, e = .returned v) ∧ ∃ au σ' S', R au σ' ∧ RepMode w' S' au u' ∧ RepStore w' S' σ' ∧ Fr w0 S0 (sdom σ0) w' S' σ') ∧ Comes P m (lone fr ({ c0 with mode := u' } :: cs) w') e ∧ fr.kind = .deferred ∧ fr.going P w' e
def Ctx.callD (P : Program) (N : Slots) (f : FuncId) (w0 : World) (S0 : Nat → Prop) (σ0 : Store) (hS : SOk w0 S0) (hst : RepStore w0 S0 σ0) (R : AMode → Store → Prop) (c0 : Frame) (cs : List Frame) (fu : FrameMode) : Ctx P N where
  b := { (default : Frame) with fn := f, kind := .deferred }
  cs := { c0 with mode := fu } :: cs
  ds := []
  w0 := w0
  S0 := S0
  F := sdom σ0
  Z := EndOkD P f w0 S0 σ0 R c0 cs
  hZ := fun m m' hs ⟨e, u', w', fr, h1, h2, h3⟩ => ⟨e, u', w', fr, h1, Comes.of_steps hs h2, h3⟩
  hS := fun b hb => ⟨hS.lt b hb, fun hd => by
    cases hs : sget b σ0 with
    | none => exact hd hs
    | some o => exact (hst b o hs).1 hb⟩
  hG := hS.g
structure IsCallD {P : Program} {N : Slots} (C : Ctx P N) (f : FuncId) (R : AMode → Store → Prop) (u : AMode) : Prop where
  ex : ∃ w0 S0 σ0 hS hst c0 cs fu, RepMode w0 S0 u fu ∧ C = Ctx.callD P N f w0 S0 σ0 hS hst R c0 cs fu
theorem ADCalls.of_body {P : Program} {f : FuncId} {fn : Func} {c : Code} {N : Nat} {args : List D} {u : AMode} {σ : Store} {R : AMode → Store → Prop} (hf : P.funcs[f]? = some fn) (hb : fn.body = some c) (hN : fn.ntmps = N) (hargs : args.length ≤ N)
    (h : ∀ C : Ctx P ⟨N, []⟩, IsCallD C f R u → Gs C [.code c] (initEnv args) σ) : ADCalls P f args u σ R := by
  intro w S vs fu hS hst hr hu c0 cs hm
  have hC := h (Ctx.callD P ⟨N, []⟩ f w S σ hS hst R c0 cs fu) ⟨_, _, _, _, _, _, _, _, hu, rfl⟩
  have hlen := hr.length
  have hsim : Sim (Ctx.callD P ⟨N, []⟩ f w S σ hS hst R c0 cs fu) (initEnv args) σ w S (vs.toArray ++ Array.replicate (fn.ntmps - vs.toArray.size) undef) := by
    refine ⟨fun k => ?_, hst, Fr.refl σ hS.lt, by simp; omega, fun p hp => by simp at hp⟩
    rw [eget_initEnv]
    by_cases hk : k < args.length
    · rw [getD_lt _ _ _ hk]
      obtain ⟨v, hv, hrep⟩ := hr.get k args[k] (by simp)
      have hkv : k < vs.length := by omega
      rw [Array.getD_eq_getD_getElem?, Array.getElem?_append_left (by simpa using hkv)]
      simp only [List.getElem?_toArray, hv, Option.getD_some]
      exact hrep
    · rw [List.getD_eq_getElem?_getD, List.getElem?_eq_none (by omega)]
      exact .any
  have hz := hC { tmps := vs.toArray ++ Array.replicate (fn.ntmps - vs.toArray.size) undef, defers := [] } w S rfl hsim
  have henter : Frame.enter P f vs.toArray .deferred = ({ (default : Frame) with fn := f, kind := .deferred } : Frame).atR { tmps := vs.toArray ++ Array.replicate (fn.ntmps - vs.toArray.size) undef, defers := [] } [.code c] := by
    simp [Frame.enter, Frame.atR, hf, hb]; rfl
  rw [henter]
  obtain ⟨e, u', w', fr, h1, hcomes, hk, hl⟩ := hz
  have hc0 : ({ c0 with mode := fu } : Frame) = c0 := by subst hm; rfl
  have hcomes' : Comes P (lone (({ (default : Frame) with fn := f, kind := .deferred } : Frame).atR { tmps := vs.toArray ++ Array.replicate (fn.ntmps - vs.toArray.size) undef, defers := [] } [.code c]) (({ c0 with mode := fu } : Frame) :: cs) w) (lone fr ({ c0 with mode := u' } :: cs) w') e := hcomes
  rw [hc0] at hcomes'
  exact ⟨e, u', w', fr, h1, hcomes', hk, hl⟩
section
variable {P : Program} {N : Slots} {C : Ctx P N} {k : List Item} {env : Env} {σ : Store} {f : FuncId} {fn : Func} {R : AMode → Store → Prop} {u : AMode}
theorem Gs.doneD (hC : IsCallD C f R u) (hf : P.funcs[f]? = some fn) (hres : fn.results.toList = []) (hR : R u σ) : Gs C [] env σ := by
  obtain ⟨w0, S0, σ0, hS, hst, c0, cs, fu, hu, rfl⟩ := hC.ex
  intro a w S hd hs
  obtain ⟨v, hrun, hrep⟩ := results_ok (P := P) (fn := fn) hs.env hs.store (by rw [hres]; simp)
  have hE := hs.fr.ev (Ctx.callD P N f w0 S0 σ0 hS hst R c0 cs fu).hS
  exact ⟨.returned v, fu, w, _, ⟨⟨v, rfl⟩, u, σ, S, hR, hu.ev hE, hs.store, hs.fr⟩, .one (stepR_end rfl), rfl, rfl, hd, fn, hf, hrun⟩
theorem recover_steps {b : Frame} {a : Act} {cs cs' : List Frame} {w : World} {id : Nat} {o0 o1 : Oper} {k1 k2 : Nat} {v : Value} (hk : b.kind = .deferred) (hr : b.roundOf = none)
    (h0 : o0.op = .call { callee := .builtin .recover, args := #[], argTypes := #[] }) (h0d : o0.dst = some k1) (h0g : o0.guard = none)
    (h1 : o1.op = .assign (.tmp k1)) (h1d : o1.dst = some k2) (h1g : o1.guard = none) (hkn : k1 < a.tmps.size)
    (hrec : recoverD cs = some (v, cs') ∨ (recoverD cs = none ∧ v = .nilIface ∧ cs' = cs)) :
    Steps P (lone (b.at a (.code (.region id #[o0, o1] false) :: k)) cs w) (lone (b.at ((a.put (some k1) v).put (some k2) v) k) cs' w) := by
  have hw0 : ∀ t, Region.wanted o0 (yielded #[o0, o1] t) = true := fun t => by simp [Region.wanted, h0g]
  have hw1 : ∀ t, Region.wanted o1 (yielded #[o0, o1] t) = true := fun t => by simp [Region.wanted, h1g]
  have hrun0 : (execOp a.eval o0).run P w = .ok .recover w := by
    simp [execOp, h0, resolve, invoke, builtin]
  have hput : ∀ v, (a.put (some k1) v).eval (.tmp k1) = v := fun v => by
    show (a.tmps.setIfInBounds k1 v).getD k1 undef = v
    simp [Array.getD, hkn]
  have hrun1 : ∀ v, (execOp (a.put (some k1) v).eval o1).run P w = .ok (.value v) w := fun v => by
    simp only [execOp, h1, hput]; rfl
  have key : ∀ cs', (recoverD cs = some (v, cs') ∨ (recoverD cs = none ∧ v = .nilIface ∧ cs' = cs)) → wpOpsS P #[o0, o1] (fun e a' cs2 w2 => e = .normal ∧ a' = (a.put (some k1) v).put (some k2) v ∧ cs2 = cs' ∧ w2 = w) (List.range 2) a cs w := by
    intro cs' hrec
    rw [show List.range 2 = [0, 1] from rfl]
    simp only [wpOpsS, show (#[o0, o1] : Array Oper)[0]? = some o0 from rfl, show (#[o0, o1] : Array Oper)[1]? = some o1 from rfl, hw0, hw1, if_true, hrun0]
    rcases hrec with hrec2 | ⟨hrec2, rfl, rfl⟩
    · simp only [hrec2, h0d, hrun1, Oper.upon_value, h1d]
      exact ⟨trivial, trivial, trivial, trivial⟩
    · rw [hrec2]
      simp only [h0d, hrun1, Oper.upon_value, h1d]
      exact ⟨trivial, trivial, trivial, trivial⟩
  obtain ⟨e, a', cs2, w2, ⟨rfl, rfl, rfl, rfl⟩, harr⟩ := wpS_region (id := id) (key cs' hrec) b k hk hr
  exact harr
theorem Sim.puts2 {a : Act} {w : World} {S : Nat → Prop} {d : D} {v : Value} {k1 k2 : Nat} (hs : Sim C env σ w S a.tmps) (hd : Rep w S d v) (h1 : dstOk N (some k1)) (h2 : dstOk N (some k2)) :
    Sim C (eput k2 d (eput k1 d env)) σ w S ((a.put (some k1) v).put (some k2) v).tmps :=
  sim_put (a := a.put (some k1) v) (dst := some k2) (sim_put hs (dst := some k1) h1 hd hs.store (Fr.refl σ hs.fr.lt)) h2 hd hs.store (Fr.refl σ hs.fr.lt)
theorem Gs.recoverPan {d : D} {id : Nat} {o0 o1 : Oper} {k1 k2 : Nat} (hC : IsCallD C f R (.pan d false))
    (h0 : o0.op = .call { callee := .builtin .recover, args := #[], argTypes := #[] }) (h0d : o0.dst = some k1) (h0g : o0.guard = none)
    (h1 : o1.op = .assign (.tmp k1)) (h1d : o1.dst = some k2) (h1g : o1.guard = none) (hk1 : dstB N (some k1)) (hk2 : dstB N (some k2))
    (h : ∀ C' : Ctx P N, IsCallD C' f R (.pan d true) → Gs C' k (eput k2 d (eput k1 d env)) σ) : Gs C (.code (.region id #[o0, o1] false) :: k) env σ := by
  obtain ⟨w0, S0, σ0, hS, hst, c0, cs, fu, hu, rfl⟩ := hC.ex
  intro a w S hd hs
  have hE := hs.fr.ev (Ctx.callD P N f w0 S0 σ0 hS hst R c0 cs fu).hS
  cases fu with
  | run => exact hu.elim
  | returning => exact hu.elim
  | panicking chain =>
    obtain ⟨v, rfl, hv⟩ := hu
    have hst' := recover_steps (P := P) (b := { (default : Frame) with fn := f, kind := .deferred }) (a := a) (k := k) (w := w) (id := id) (cs := ({ c0 with mode := .panicking [{ v, recovered := false }] } : Frame) :: cs) (cs' := ({ c0 with mode := .panicking [{ v, recovered := true }] } : Frame) :: cs) (v := v) rfl rfl h0 h0d h0g h1 h1d h1g (by rw [hs.size.1]; exact (dstB_ok hk1 k1 rfl).1) (.inl rfl)
    have hg := h (Ctx.callD P N f w0 S0 σ0 hS hst R c0 cs (.panicking [{ v, recovered := true }])) ⟨w0, S0, σ0, hS, hst, c0, cs, .panicking [{ v, recovered := true }], ⟨v, rfl, hv⟩, rfl⟩
    have h2 := Sim.puts2 hs (hv.ev hE) (dstB_ok hk1) (dstB_ok hk2)
    have hz := hg ((a.put (some k1) v).put (some k2) v) w S (by rw [put_defers, put_defers]; exact hd) ⟨h2.env, h2.store, h2.fr, h2.size⟩
    exact (Ctx.callD P N f w0 S0 σ0 hS hst R c0 cs (.panicking [{ v, recovered := false }])).hZ _ _ hst' hz
theorem Gs.recoverRet {id : Nat} {o0 o1 : Oper} {k1 k2 : Nat} (hC : IsCallD C f R .ret)
    (h0 : o0.op = .call { callee := .builtin .recover, args := #[], argTypes := #[] }) (h0d : o0.dst = some k1) (h0g : o0.guard = none)
    (h1 : o1.op = .assign (.tmp k1)) (h1d : o1.dst = some k2) (h1g : o1.guard = none) (hk1 : dstB N (some k1)) (hk2 : dstB N (some k2))
    (h : Gs C k (eput k2 (.v .nilIface) (eput k1 (.v .nilIface) env)) σ) : Gs C (.code (.region id #[o0, o1] false) :: k) env σ := by
  obtain ⟨w0, S0, σ0, hS, hst, c0, cs, fu, hu, rfl⟩ := hC.ex
  intro a w S hd hs
  cases fu with
  | run => exact hu.elim
  | panicking chain => exact hu.elim
  | returning =>
    have hst' := recover_steps (P := P) (b := { (default : Frame) with fn := f, kind := .deferred }) (a := a) (k := k) (w := w) (id := id) (cs := ({ c0 with mode := .returning } : Frame) :: cs) (cs' := ({ c0 with mode := .returning } : Frame) :: cs) (v := .nilIface) rfl rfl h0 h0d h0g h1 h1d h1g (by rw [hs.size.1]; exact (dstB_ok hk1 k1 rfl).1) (.inr ⟨rfl, rfl, rfl⟩)
    have h2 := Sim.puts2 hs (d := .v .nilIface) (v := .nilIface) (.v rfl) (dstB_ok hk1) (dstB_ok hk2)
    have hz := h ((a.put (some k1) .nilIface).put (some k2) .nilIface) w S (by rw [put_defers, put_defers]; exact hd) h2
    exact (Ctx.callD P N f w0 S0 σ0 hS hst R c0 cs .returning).hZ _ _ hst' hz
end
def ptrV : D → Value
  | .ptr b sz i o => .pointer (some ⟨b, i * sz + o, none⟩)
  | _ => undef
def isPtr : D → Bool
  | .ptr _ _ _ _ => true
  | _ => false
theorem ptrV_rep {w : World} {S : Nat → Prop} {d : D} (h : isPtr d = true) : Rep w S d (ptrV d) := by
  cases d <;> simp [isPtr] at h
  exact .ptr
theorem ptrV_inv {w : World} {S : Nat → Prop} {d : D} {v : Value} (h : isPtr d = true) (hr : Rep w S d v) : v = ptrV d := by
  cases d <;> simp [isPtr] at h
  cases hr; rfl
theorem ptrVs_rep {w : World} {S : Nat → Prop} : ∀ {ds : List D}, ds.all isPtr = true → RepL w S ds (ds.map ptrV)
  | [], _ => .nil
  | d :: ds, h => by
    simp only [List.all_cons, Bool.and_eq_true] at h
    exact .cons (ptrV_rep h.1) (ptrVs_rep h.2)
def lkOf (L : Env) : List (Nat × Value) := L.map fun p => (p.1, ptrV p.2)
attribute [go_sem] lkOf D.agg.injEq exists_eq'
def defOf (fd : FuncId) (caps : List D) : Deferred := { target := .fn (.func fd) (caps.map ptrV).toArray, args := #[] }
def Ctx.callL (P : Program) (N : Slots) (f : FuncId) (w0 : World) (S0 : Nat → Prop) (σ0 : Store) (hS : SOk w0 S0) (hst : RepStore w0 S0 σ0) (R : AEnd → Store → Prop) (cs : List Frame) (dv : Deferred) : Ctx P N :=
  { b := { (default : Frame) with fn := f, kind := .normal }
    cs := cs
    ds := [dv]
    w0 := w0
    S0 := S0
    F := sdom σ0
    Z := EndOk P f w0 S0 σ0 R cs
    hZ := fun m m' hs ⟨e, w', fr, h1, h2, h3⟩ => ⟨e, w', fr, h1, Comes.of_steps hs h2, h3⟩
    hS := fun b hb => ⟨hS.lt b hb, fun hd => by
      cases hs : sget b σ0 with
      | none => exact hd hs
      | some o => exact (hst b o hs).1 hb⟩
    hG := hS.g }
structure IsCallL {P : Program} {n : Nat} {L : Env} (C : Ctx P ⟨n, lkOf L⟩) (f : FuncId) (R : AEnd → Store → Prop) (fd : FuncId) (caps : List D) : Prop where
  ex : ∃ w0 S0 σ0 hS hst cs, C = Ctx.callL P ⟨n, lkOf L⟩ f w0 S0 σ0 hS hst R cs (defOf fd caps)
  caps : caps.all isPtr = true
  locked : L.all (fun p => isPtr p.2) = true
  entry : ∀ args w, (callFunc fd args).run P w = .ok (.enter fd args) w
section
variable {P : Program} {n : Nat} {L : Env} {k : List Item} {env : Env} {σ : Store} {f fd : FuncId} {fn : Func} {R : AEnd → Store → Prop} {caps : List D}
theorem Gs.defer {C : Ctx P ⟨n, []⟩} (L : Env) {id : Nat} {o0 o1 : Oper} {k1 : Nat} {cs : Array Operand} {ts : Array TypeId} (hC : IsCall C f R) (he : ∀ args w, (callFunc fd args).run P w = .ok (.enter fd args) w)
    (h0 : o0.op = .makeFunc (.func fd) #[] cs) (h0d : o0.dst = some k1) (h0g : o0.guard = none)
    (h1 : o1.op = .defer { callee := .value (.tmp k1), args := #[], argTypes := ts }) (h1d : o1.dst = none) (h1g : o1.guard = none) (hk1 : k1 < n)
    (hcaps : (cs.toList.map (ev env)).all isPtr = true) (hL : L.all (fun p => isPtr p.2) = true) (hLe : ∀ p ∈ L, eget p.1 env = p.2) (hLk : ∀ p ∈ L, p.1 ≠ k1)
    (h : ∀ C' : Ctx P ⟨n, lkOf L⟩, IsCallL C' f R fd (cs.toList.map (ev env)) → Gs C' k (eput k1 .any env) σ) : Gs C (.code (.region id #[o0, o1] false) :: k) env σ := by
  obtain ⟨w0, S0, σ0, hS, hst, cs0, rfl⟩ := hC.ex
  intro a w S hd hs
  have hcv : (cs.map a.eval).toList = (cs.toList.map (ev env)).map ptrV := by
    have hr := ev_reps hs cs.toList
    have : ∀ {ds : List D} {vs : List Value}, RepL w S ds vs → ds.all isPtr = true → vs = ds.map ptrV := by
      intro ds
      induction ds with
      | nil => intro vs h _; rw [h.nil_inv]; rfl
      | cons d ds ih =>
        intro vs h hp
        simp only [List.all_cons, Bool.and_eq_true] at hp
        obtain ⟨x, xs, rfl, h1, h2⟩ := h.cons_inv
        rw [ptrV_inv hp.1 h1, ih h2 hp.2]; rfl
    rw [Array.toList_map]
    exact this hr hcaps
  have hrun0 : (execOp a.eval o0).run P w = .ok (.value (.func (.func fd) #[] (cs.map a.eval))) w := by
    simp [execOp, h0, Instr.makeFunc]
  let a1 := a.put (some k1) (.func (.func fd) #[] (cs.map a.eval))
  have hev1 : a1.eval (.tmp k1) = .func (.func fd) #[] (cs.map a.eval) := by
    show (a.tmps.setIfInBounds k1 _).getD k1 undef = _
    simp [Array.getD, hs.size.1, hk1]
  have hdef : ({ target := .fn (.func fd) (cs.map a.eval), args := #[] } : Deferred) = defOf fd (cs.toList.map (ev env)) := by
    unfold defOf
    congr 2
    rw [← hcv]
  have hrun1 : (execOp a1.eval o1).run P w = .ok (.defer (defOf fd (cs.toList.map (ev env)))) w := by
    rw [← hdef]
    simp only [execOp, h1, resolve, hev1, Deferred.ofValue]
    simp
  have hw0 : ∀ t, Region.wanted o0 (yielded #[o0, o1] t) = true := fun t => by simp [Region.wanted, h0g]
  have hw1 : ∀ t, Region.wanted o1 (yielded #[o0, o1] t) = true := fun t => by simp [Region.wanted, h1g]
  have hwp : wpOps P #[o0, o1] (fun e a' w' => e = .normal ∧ a' = { a1 with defers := defOf fd (cs.toList.map (ev env)) :: a1.defers } ∧ w' = w) (List.range (#[o0, o1] : Array Oper).size) a w := by
    rw [show List.range (#[o0, o1] : Array Oper).size = [0, 1] from rfl]
    simp only [wpOps, show (#[o0, o1] : Array Oper)[0]? = some o0 from rfl, show (#[o0, o1] : Array Oper)[1]? = some o1 from rfl, hw0, hw1, if_true]
    refine .inl ?_
    unfold Oper.wp
    rw [hrun0, Oper.upon_value, h0d]
    refine .inl ?_
    rw [hrun1, Oper.upon_defer, h1d]
    exact ⟨trivial, rfl, rfl⟩
  obtain ⟨e, a', w', ⟨rfl, rfl, rfl⟩, harr⟩ := wp_region (id := id) hwp { (default : Frame) with fn := f, kind := .normal } k cs0
  let C' : Ctx P ⟨n, lkOf L⟩ := Ctx.callL P ⟨n, lkOf L⟩ f w0 S0 σ0 hS hst R cs0 (defOf fd (cs.toList.map (ev env)))
  have hg := h C' ⟨⟨_, _, _, hS, hst, _, rfl⟩, hcaps, hL, he⟩
  have hlock : ∀ p ∈ lkOf L, a1.tmps.getD p.1 undef = p.2 := by
    intro p hp
    obtain ⟨q, hq, rfl⟩ := List.mem_map.1 hp
    have h2 := hs.env q.1
    rw [hLe q hq] at h2
    have h3 := ptrV_inv (by simpa using List.all_eq_true.1 hL q hq) h2
    show (a.tmps.setIfInBounds k1 _).getD q.1 undef = _
    simp only [Array.getD_eq_getD_getElem?, Array.getElem?_setIfInBounds]
    rw [if_neg (fun h => hLk q hq h.symm), ← Array.getD_eq_getD_getElem?, h3]
  have hz := hg { a1 with defers := defOf fd (cs.toList.map (ev env)) :: a1.defers } w' S (by
      show defOf _ _ :: (a.put (some k1) _).defers = [defOf fd (cs.toList.map (ev env))]
      rw [put_defers, show a.defers = [] from hd]) ⟨fun j => ?_, hs.store, hs.fr, by
      show (a.tmps.setIfInBounds k1 _).size = n
      simpa using hs.size.1, hlock⟩
  · exact (Ctx.call P ⟨n, []⟩ f w0 S0 σ0 hS hst R cs0).hZ _ _ harr hz
  · rw [eget_eput]
    split
    · exact .any
    · rename_i hj
      have h2 := hs.env j
      have h3 : a1.tmps.getD j undef = a.tmps.getD j undef := by
        show (a.tmps.setIfInBounds k1 _).getD j undef = _
        simp only [Array.getD_eq_getD_getElem?, Array.getElem?_setIfInBounds]
        rw [if_neg (fun h => hj h.symm)]
      show Rep _ _ _ (a1.tmps.getD j undef)
      rw [h3]; exact h2
def AfterD (P : Program) (fn : Func) (L : Env) (R : AEnd → Store → Prop) (u : AMode) (σ : Store) : Prop :=
  match u with
  | .ret | .pan _ true => (∀ r ∈ fn.results.toList, resPre P L σ r) ∧ R (.ret (resD P L σ fn.results.toList)) σ
  | .pan d false => R (.panic d) σ
theorem end_ofL {m : Machine} {w0 : World} {S0 : Nat → Prop} {σ0 : Store} {cs : List Frame} {a : Act} {todo : List Item} {w : World} {S : Nat → Prop} {u : AMode} {fu : FrameMode} (hf : P.funcs[f]? = some fn) (hd : a.defers = [defOf fd caps])
    (hS0 : ∀ b, S0 b → b < w0.heap.size ∧ ¬ sdom σ0 b) (hG0 : GOk w0 S0) (hcaps : caps.all isPtr = true) (hlock : L.all (fun p => isPtr p.2) = true) (he : ∀ args w, (callFunc fd args).run P w = .ok (.enter fd args) w)
    (hsz : SlotsOk ⟨n, lkOf L⟩ a.tmps) (hst : RepStore w S σ) (hfr : Fr w0 S0 (sdom σ0) w S σ) (hu : RepMode w S u fu) (hR : ADCalls P fd caps u σ (AfterD P fn L R))
    (hs : Steps P m (lone { ({ (default : Frame) with fn := f, kind := .normal } : Frame).atR a todo with mode := fu } cs w)) : EndOk P f w0 S0 σ0 R cs m := by
  have henv : ∀ (w : World) (S : Nat → Prop), RepEnv w S L a.tmps := by
    intro w S k
    by_cases hk : ∃ d, (k, d) ∈ L ∧ eget k L = d
    · obtain ⟨d, hm, hd⟩ := hk
      have h1 := hsz.2 (k, ptrV d) (List.mem_map.2 ⟨(k, d), hm, rfl⟩)
      rw [hd]
      show Rep w S d (a.tmps.getD k undef)
      rw [show a.tmps.getD k undef = ptrV d from h1]
      exact ptrV_rep (by simpa using List.all_eq_true.1 hlock (k, d) hm)
    · have : eget k L = .any := by
        clear hsz hlock hR
        induction L with
        | nil => rfl
        | cons p r ih =>
          obtain ⟨j, x⟩ := p
          by_cases hkj : k = j
          · subst hkj
            exact absurd ⟨x, by simp, by simp [eget]⟩ hk
          · rw [eget, if_neg hkj]
            refine ih fun ⟨d, h1, h2⟩ => hk ⟨d, by simp [h1], by rw [eget, if_neg hkj]; exact h2⟩
      rw [this]; exact .any
  have hne : fu ≠ .run := by cases u <;> cases fu <;> simp_all [RepMode]
  have hcall := hR w S (caps.map ptrV) fu ⟨hfr.lt, hG0.ev (hfr.ev hS0)⟩ hst (ptrVs_rep hcaps) hu
  have hl : Leaves P fn a.tmps (fun e w' => ∃ ae σ' S', R ae σ' ∧ RepEnd w' S' ae e ∧ RepStore w' S' σ' ∧ Fr w0 S0 (sdom σ0) w' S' σ') [defOf fd caps] fu w := by
    refine ⟨hne, .func fd, _, fd, (caps.map ptrV).toArray, rfl, ?_, hcall.mono ?_⟩
    · show (invoke (.fn (.func fd) (caps.map ptrV).toArray) #[]).run P w = _
      simp only [invoke, Array.empty_append]
      exact he _ _
    · rintro e u' w' ⟨⟨v, rfl⟩, au, σ', S', hA, hm, hst', hfr'⟩
      have hfr2 := hfr.trans hfr'
      cases au with
      | ret =>
        obtain ⟨hres, hret⟩ := hA
        cases u' with
        | run => exact hm.elim
        | panicking c => exact hm.elim
        | returning =>
          obtain ⟨v2, hrun, hrep⟩ := results_ok (fn := fn) (henv w' S') hst' hres
          exact ⟨v2, hrun, _, σ', S', hret, hrep, hst', hfr2⟩
      | pan d r =>
        cases u' with
        | run => exact hm.elim
        | returning => exact hm.elim
        | panicking c =>
          obtain ⟨x, rfl, hx⟩ := hm
          cases r with
          | true =>
            obtain ⟨hres, hret⟩ := hA
            obtain ⟨v2, hrun, hrep⟩ := results_ok (fn := fn) (henv w' S') hst' hres
            exact ⟨v2, hrun, _, σ', S', hret, hrep, hst', hfr2⟩
          | false => exact ⟨_, σ', S', hA, ⟨x, rfl, hx⟩, hst', hfr2⟩
  obtain ⟨e, w', fr', hR', hcomes, hfn, hleave⟩ := leaves_steps (cs := cs) [defOf fd caps] fu w { ({ (default : Frame) with fn := f, kind := .normal } : Frame).atR a todo with mode := fu } rfl hd rfl hf rfl hl
  exact ⟨e, w', fr', hR', Comes.of_steps hs hcomes, hfn, hleave⟩
variable {C : Ctx P ⟨n, lkOf L⟩}
theorem Gs.retL (hC : IsCallL C f R fd caps) (hf : P.funcs[f]? = some fn) (hR : ADCalls P fd caps .ret σ (AfterD P fn L R)) : Gs C (.code .ret :: k) env σ := by
  obtain ⟨⟨w0, S0, σ0, hS, hst, cs, rfl⟩, hcaps, hlock, he⟩ := hC
  intro a w S hd hs
  exact end_ofL hf hd (Ctx.callL P ⟨n, lkOf L⟩ f w0 S0 σ0 hS hst R cs (defOf fd caps)).hS hS.g hcaps hlock he hs.size hs.store hs.fr (u := .ret) (fu := .returning) trivial hR (.one (stepR_ret rfl))
theorem Pan.ofL (hC : IsCallL C f R fd caps) (hf : P.funcs[f]? = some fn) {d : D} (hR : ADCalls P fd caps (.pan d false) σ (AfterD P fn L R)) : Pan C d σ := by
  obtain ⟨⟨w0, S0, σ0, hS, hst, cs, rfl⟩, hcaps, hlock, he⟩ := hC
  intro a todo w S v hd hv hst' hfr hsz
  exact end_ofL hf hd (Ctx.callL P ⟨n, lkOf L⟩ f w0 S0 σ0 hS hst R cs (defOf fd caps)).hS hS.g hcaps hlock he hsz hst' hfr (u := .pan d false) (fu := .panicking [{ v, recovered := false }]) ⟨v, rfl, hv⟩ hR (Steps.refl P _)
end
end Go.Ab
namespace Go.Ab
theorem Pan.le {P : Program} {N : Slots} {C : Ctx P N} {d : D} {σ σ' : Store} (h : Pan C d σ') (hs : SLe σ' σ) : Pan C d σ :=
  fun a todo w S v hd hv hst hfr hsz => h a todo w S v hd hv (hst.le hs) (hfr.le hs) hsz
theorem Gs.join {P : Program} {N : Slots} {C : Ctx P N} {x : Code} {k : List Item} {env : Env} {σ : Store} (I : Env → Store → Prop) (h1 : ∀ k' : List Item, (∀ env σ, I env σ → Gs C k' env σ) → Gs C (.code x :: k') env σ)
    (h2 : ∀ env σ, I env σ → Gs C k env σ) : Gs C (.code x :: k) env σ := h1 k h2
end Go.Ab
namespace Go.Ab
open Go
theorem bytesOf_bD (l : List UInt8) : bytesOf (l.map bD) = ⟨l.toArray⟩ := by
  unfold bytesOf
  rw [List.map_map, show byteOf ∘ bD = id from funext byteOf_bD, List.map_id]
theorem getD_map_lt {α : Type} (f : α → D) (l : List α) (i : Nat) (h : i < l.length) : (l.map f).getD i .any = f l[i] := by
  rw [List.getD_eq_getElem?_getD, List.getElem?_map, List.getElem?_eq_getElem h]; rfl
theorem flatMap_length_le {α β : Type} (f : α → List β) (n : Nat) : ∀ (l : List α), (∀ x ∈ l, (f x).length ≤ n) → (l.flatMap f).length ≤ l.length * n
  | [], _ => by simp
  | x :: l, h => by
    rw [List.flatMap_cons, List.length_append, List.length_cons, Nat.succ_mul]
    have h1 := h x (by simp)
    have h2 := flatMap_length_le f n l fun y hy => h y (by simp [hy])
    omega
theorem plain_bD (l : List UInt8) : ∀ x ∈ l.map bD, x.cells.length = 1 ∧ x.plain = true := fun x hx => by
  obtain ⟨c, _, rfl⟩ := List.mem_map.1 hx; exact ⟨rfl, rfl⟩
end Go.Ab
namespace Go.Ab
theorem Gs.row_le {P : Program} {N : Slots} {C : Ctx P N} {todo : List Item} {env : Env} {σ : Store} {b sz : Nat} {xs ys : List D} (hx : ∀ w S vs, RepL w S (flat xs) vs → RepL w S (flat ys) vs) (hs : ∀ y ∈ ys, y.cells.length = sz)
    (h : Gs C todo env ((b, .arr sz ys) :: σ)) : Gs C todo env ((b, .arr sz xs) :: σ) := by
  intro a w S hd hsim
  refine h a w S hd ⟨hsim.env, fun c o hc => ?_, { hsim.fr with dom := fun c hc => hsim.fr.dom c ?_ }, hsim.size⟩
  · rw [sget_cons] at hc
    by_cases hcb : c = b
    · rw [if_pos hcb] at hc
      cases hc
      obtain ⟨h1, c', e, lo, hi, vals, h2, h3, h4, h5, h6⟩ := hsim.store c (.arr sz xs) (by rw [sget_cons, if_pos hcb])
      exact ⟨h1, c', e, lo, hi, vals, h2, hx _ _ _ h3, h4, hs, h6⟩
    · rw [if_neg hcb] at hc
      exact hsim.store c o (by rw [sget_cons, if_neg hcb]; exact hc)
  · unfold sdom at *
    rw [sget_cons] at hc ⊢
    split at hc <;> simp_all
theorem DLe.slc {xs ys : List D} (h : ∀ w S vs, RepL w S (flat xs) vs → RepL w S (flat ys) vs) (hl : ys.map (·.cells.length) = xs.map (·.cells.length)) : DLe (.slc xs) (.slc ys) := by
  intro w S v hr
  have hlen : ys.length = xs.length := by simpa using congrArg List.length hl
  cases hr with
  | slc0 => have : ys = [] := List.eq_nil_of_length_eq_zero (by simpa using hlen); rw [this]; exact .slc0
  | slc hb hr hc hs hcap =>
    rename_i b off cap sz vals
    have hs' : ∀ y ∈ ys, y.cells.length = sz := fun y hy => by
      have : y.cells.length ∈ ys.map (·.cells.length) := List.mem_map_of_mem hy
      rw [hl] at this
      obtain ⟨x, hx, he⟩ := List.mem_map.1 this
      rw [← he]; exact hs x hx
    have := Rep.slc hb (h _ _ _ hr) hc hs' (by rw [hlen]; exact hcap)
    rw [hlen] at this
    exact this
structure Gr (o : Option Nat) (bs : List UInt8) (ρ : Store) : Prop where
  fresh : Fresh o ρ
  zero : o = none → bs = []
theorem Gr.oget {o : Option Nat} {bs : List UInt8} {ρ : Store} (h : Gr o bs ρ) : oget 1 o (cellsOf o 1 (bs.map bD) ++ ρ) = some (bs.map bD) := by
  cases o with
  | none => simp [Ab.oget, h.zero rfl]
  | some b => simp [cellsOf, Ab.oget]
theorem Gr.sdel {o : Option Nat} {bs : List UInt8} {ρ : Store} (h : Gr o bs ρ) : sdelo o (cellsOf o 1 (bs.map bD) ++ ρ) = ρ := sdelo_cells h.fresh
theorem Gr.keep {o : Option Nat} {bs : List UInt8} {ρ : Store} (h : Gr o bs ρ) {b : Nat} {x : AObj} (hb : sget b ρ = some x) : sget b (cellsOf o 1 (bs.map bD) ++ ρ) = some x := by
  cases o with
  | none => exact hb
  | some c =>
    have : b ≠ c := fun e => by have := h.fresh c rfl; rw [← e, hb] at this; cases this
    show sget b ((c, _) :: ρ) = _
    rw [sget_cons, if_neg this, hb]
theorem Gr.app {o ob : Option Nat} {bs ys : List UInt8} {ρ : Store} (h : Gr o bs ρ) (hz : ob = none → bs.map bD ++ ys.map bD = []) (hf : Fresh ob ρ) : Gr ob (bs ++ ys) ρ :=
  ⟨hf, fun e => by have := hz e; rw [← List.map_append] at this; simpa using this⟩
theorem Gr.nil (ρ : Store) : Gr none [] ρ := ⟨fresh_none, fun _ => rfl⟩
theorem Gr.sle {o : Option Nat} {bs : List UInt8} {ρ : Store} (h : Gr o bs ρ) : SLe ρ (cellsOf o 1 (bs.map bD) ++ ρ) := sle_cells h.fresh
section
variable {P : Program} {f : FuncId} {args : List D}
theorem AC.still {r : AEnd} (h : AC P f args [] (fun e σ' => e = r ∧ σ' = [])) (σ : Store) : AC P f args σ (fun e σ' => e = r ∧ σ' = σ) := by
  refine (h.quiet (σ := σ)).mono ?_
  rintro e σ' ⟨σ1, ⟨rfl, rfl⟩, _, rfl⟩
  exact ⟨rfl, rfl⟩
theorem AC.pub1 {R : AEnd → Store → Prop} {R' : AEnd → Prop} (h : AC P f args [] R) (hr : ∀ e σ', R e σ' → (R' e ∧ σ' = []) ∨ ∃ d b sz xs, e = .ret d ∧ σ' = [(b, .arr sz xs)] ∧ R' (.ret (d.pub b sz xs))) (σ : Store) :
    AC P f args σ (fun e σ' => R' e ∧ σ' = σ) := by
  have h2 : AC P f args [] (fun e σ' => R' e ∧ σ' = []) := by
    refine h.publish fun e σ' hR => ?_
    rcases hr e σ' hR with h3 | ⟨d, b, sz, xs, rfl, rfl, h3⟩
    · exact .inl h3
    · refine .inr ⟨d, b, sz, xs, rfl, sget_self .., h3, ?_⟩
      simp [spub]
  refine (h2.quiet (σ := σ)).mono ?_
  rintro e σ' ⟨σ1, ⟨h3, rfl⟩, _, rfl⟩
  exact ⟨h3, rfl⟩
end
end Go.Ab
namespace Go.Ab
structure GrD (o : Option Nat) (sz : Nat) (xs : List D) (ρ : Store) : Prop where
  fresh : Fresh o ρ
  zero : o = none → xs = []
theorem GrD.oget {o : Option Nat} {sz : Nat} {xs : List D} {ρ : Store} (h : GrD o sz xs ρ) : oget sz o (cellsOf o sz xs ++ ρ) = some xs := by
  cases o with
  | none => simp [Ab.oget, h.zero rfl]
  | some b => simp [cellsOf, Ab.oget]
theorem GrD.sdel {o : Option Nat} {sz : Nat} {xs : List D} {ρ : Store} (h : GrD o sz xs ρ) : sdelo o (cellsOf o sz xs ++ ρ) = ρ := sdelo_cells h.fresh
theorem GrD.keep {o : Option Nat} {sz : Nat} {xs : List D} {ρ : Store} (h : GrD o sz xs ρ) {b : Nat} {x : AObj} (hb : sget b ρ = some x) : sget b (cellsOf o sz xs ++ ρ) = some x := by
  cases o with
  | none => exact hb
  | some c =>
    have : b ≠ c := fun e => by have := h.fresh c rfl; rw [← e, hb] at this; cases this
    show sget b ((c, _) :: ρ) = _
    rw [sget_cons, if_neg this, hb]
theorem GrD.nil (sz : Nat) (ρ : Store) : GrD none sz [] ρ := ⟨fresh_none, fun _ => rfl⟩
theorem GrD.sle {o : Option Nat} {sz : Nat} {xs : List D} {ρ : Store} (h : GrD o sz xs ρ) : SLe ρ (cellsOf o sz xs ++ ρ) := sle_cells h.fresh
theorem GrD.none_of {o : Option Nat} {sz : Nat} {xs : List D} {ρ : Store} (h : GrD o sz xs ρ) {b : Nat} (hb : sget b (cellsOf o sz xs ++ ρ) = none) : sget b ρ = none ∧ o ≠ some b := by
  refine ⟨none_of_sle h.sle hb, fun e => ?_⟩
  rw [e] at hb; simp [cellsOf, sget] at hb
theorem GrD.push {o : Option Nat} {sz : Nat} {xs : List D} {ρ : Store} (h : GrD o sz xs ρ) {b : Nat} {x : AObj} (hb : sget b (cellsOf o sz xs ++ ρ) = none) : GrD o sz xs ((b, x) :: ρ) ∧ SLe (cellsOf o sz xs ++ (b, x) :: ρ) ((b, x) :: (cellsOf o sz xs ++ ρ)) := by
  obtain ⟨h1, h2⟩ := h.none_of hb
  refine ⟨⟨fun c hc => ?_, h.zero⟩, SLe.append (sle_cons (SLe.append_left _ _) ?_) ?_⟩
  · rw [sget_cons, if_neg (fun e => h2 (by rw [hc, e]))]; exact h.fresh c hc
  · cases o with
    | none => rfl
    | some c => simp [cellsOf, sget]; exact fun e => h2 (by rw [e])
  · exact sle_cons_cons h.sle
theorem GrD.drop {o : Option Nat} {sz : Nat} {xs : List D} {ρ : Store} {b : Nat} {x : AObj} (h : GrD o sz xs ((b, x) :: ρ)) (hb : sget b ρ = none) : GrD o sz xs ρ ∧ SLe (cellsOf o sz xs ++ ρ) (cellsOf o sz xs ++ (b, x) :: ρ) := by
  refine ⟨⟨fun c hc => ?_, h.zero⟩, ?_⟩
  · have := h.fresh c hc
    rw [sget_cons] at this
    split at this
    · cases this
    · exact this
  · refine SLe.append (SLe.append_left _ _) ((sle_cons (SLe.refl _) hb).trans h.sle)
theorem GrD.app {o ob : Option Nat} {sz : Nat} {xs ys : List D} {ρ : Store} (_h : GrD o sz xs ρ) (hz : ob = none → xs ++ ys = []) (hf : Fresh ob ρ) : GrD ob sz (xs ++ ys) ρ := ⟨hf, hz⟩
theorem plain_mapF {α : Type} (f : α → D) (n : Nat) (hf : ∀ x, (f x).cells.length = n ∧ (f x).plain = true) (l : List α) : ∀ y ∈ l.map f, y.cells.length = n ∧ y.plain = true := fun y hy => by
  obtain ⟨c, _, rfl⟩ := List.mem_map.1 hy; exact hf c
end Go.Ab
namespace Go.Ab
open Go
inductive Tp where
  | int (k : IntKind)
  | bool
  | str
  | slice (e : Tp)
  | struct (fs : List Tp)
def Tp.one : Tp → Bool
  | .struct _ => false
  | _ => true
mutual
def Tp.n : Tp → Nat
  | .struct fs => Tp.ns fs
  | _ => 1
def Tp.ns : List Tp → Nat
  | [] => 0
  | f :: fs => f.n + Tp.ns fs
end
mutual
/-- The cells of a value of such a type. -/
def WT : Tp → List D → Prop
  | .int k, ds => ∃ n : Int, ds = [.v (.int k n)] ∧ (Lit.int k n).wf = true
  | .bool, ds => ∃ b : Bool, ds = [.v (.bool b)]
  | .str, ds => ∃ s : ByteArray, ds = [.v (.string s)] ∧ s.size ≤ maxLen
  | .slice e, ds => ∃ xs : List D, ds = [.slc xs] ∧ xs.length ≤ maxLen ∧ ∀ x ∈ xs, (e.one = true → x.cells = [x]) ∧ (e.one = false → ∃ cs, x = .agg cs) ∧ WT e x.cells
  | .struct fs, ds => WTs fs ds
def WTs : List Tp → List D → Prop
  | [], ds => ds = []
  | f :: fs, ds => ∃ a b, ds = a ++ b ∧ WT f a ∧ WTs fs b
end
mutual
def HasTp (P : Program) : Tp → TypeId → Prop
  | .int k, t => P.underlying t = some (.int k)
  | .bool, t => P.underlying t = some .bool
  | .str, t => P.underlying t = some .string
  | .slice e, t => ∃ te, P.underlying t = some (.slice te) ∧ P.cellsOf te = e.n ∧ 0 < e.n ∧ HasTp P e te
  | .struct fs, t => ∃ Fs : List Field, P.underlying t = some (.struct Fs.toArray) ∧ HasTps P 0 fs Fs ∧ P.cellsOf t = Tp.ns fs
def HasTps (P : Program) : Nat → List Tp → List Field → Prop
  | _, [], Fs => Fs = []
  | off, T :: Ts, Fs => ∃ F Fs', Fs = F :: Fs' ∧ F.offset = off ∧ P.cellsOf F.type = T.n ∧ HasTp P T F.type ∧ HasTps P (off + T.n) Ts Fs'
end
section
variable {H : Type} {enc : TypeId × Value → H} {P : Program} {w : World} {base : Nat} {spare : Nat → Bool} {held : Bool}
theorem cellsAt_of {b off n : Nat} {vals : List Value} (h : ∀ i, i < n → w.cell? ⟨b, off + i, none⟩ = vals[i]?) (hl : vals.length = n) : CellsAt w b off vals := fun k x hk => by
  have hlt : k < vals.length := (List.getElem?_eq_some_iff.1 hk).1
  rw [h k (by omega), hk]
theorem rows_rep {S : Nat → Prop} {a : Addr} {n : Nat} {Q : D → Prop} : ∀ (len : Nat), (∀ i, i < len → ∃ cs' x, w.cells? base (a.add (i * n)) n = some cs' ∧ RepL w S x.cells cs' ∧ x.cells.length = n ∧ Q x) →
    ∃ xs vals, xs.length = len ∧ RepL w S (flat xs) vals ∧ vals.length = len * n ∧ (∀ x ∈ xs, x.cells.length = n ∧ Q x) ∧ ∀ k, k < len * n → w.cell? (a.add k) = vals[k]?
  | 0, _ => ⟨[], [], rfl, .nil, by simp, by simp, by simp⟩
  | len + 1, h => by
    obtain ⟨xs, vals, h1, h2, h3, h4, h5⟩ := rows_rep len fun i hi => h i (by omega)
    obtain ⟨cs', x, hc, hr, hl, hq⟩ := h len (by omega)
    obtain ⟨_, hcl, hat⟩ := World.cells?_some hc
    refine ⟨xs ++ [x], vals ++ cs', by simp [h1], ?_, by simp [h3, hcl, Nat.succ_mul], ?_, fun k hk => ?_⟩
    · simp only [flat_append, flat_cons, flat_nil, List.append_nil]
      exact h2.append hr
    · intro y hy
      rcases List.mem_append.1 hy with hy | hy
      · exact h4 y hy
      · simp only [List.mem_singleton] at hy; subst hy; exact ⟨hl, hq⟩
    · by_cases hlt : k < len * n
      · rw [h5 k hlt, List.getElem?_append_left (by rw [h3]; exact hlt)]
      · have hs : (len + 1) * n = len * n + n := Nat.succ_mul ..
        rw [hs] at hk
        have := hat (k - len * n) (by omega)
        rw [List.getElem?_append_right (by rw [h3]; omega), h3, ← this]
        have he : a.add k = (a.add (len * n)).add (k - len * n) := by
          rw [Go.Deep.add_add, Nat.add_sub_cancel' (by omega)]
        rw [he]
theorem one_cells : ∀ {e : Tp} {d : D}, e.one = true → WT e [d] → d.cells = [d]
  | .int k, d, _, h => by unfold WT at h; obtain ⟨n, h, _⟩ := h; cases h; rfl
  | .bool, d, _, h => by unfold WT at h; obtain ⟨n, h⟩ := h; cases h; rfl
  | .str, d, _, h => by unfold WT at h; obtain ⟨n, h, _⟩ := h; cases h; rfl
  | .slice e, d, _, h => by unfold WT at h; obtain ⟨n, h, _⟩ := h; cases h; rfl
  | .struct fs, d, h, _ => by cases h
theorem one_n : ∀ {e : Tp}, e.one = true → e.n = 1
  | .int k, _ => by simp [Tp.n]
  | .bool, _ => by simp [Tp.n]
  | .str, _ => by simp [Tp.n]
  | .slice e, _ => by simp [Tp.n]
  | .struct fs, h => by cases h
mutual
theorem trod_wt : ∀ (T : Tp) {t : TypeId} {fuel : Nat} {cs : List Value} {x : DataW H × List MemPlace}, HasTp P T t → DataW.trod enc P w base spare held fuel t cs = some x →
    ∃ ds, WT T ds ∧ ds.length = T.n ∧ RepL w (fun b => b < w.heap.size) ds cs
  | .int k, t, fuel, cs, x, ht, h => by
    unfold HasTp at ht
    obtain ⟨n, rfl, _, hwf⟩ := DataW.trod_int ht h
    exact ⟨[.v (.int k n)], ⟨n, rfl, hwf⟩, rfl, .one (.v rfl)⟩
  | .bool, t, fuel, cs, x, ht, h => by
    unfold HasTp at ht
    obtain ⟨b, rfl, _⟩ := DataW.trod_bool ht h
    exact ⟨[.v (.bool b)], ⟨b, rfl⟩, rfl, .one (.v rfl)⟩
  | .str, t, fuel, cs, x, ht, h => by
    unfold HasTp at ht
    obtain ⟨s, rfl, _, hs⟩ := DataW.trod_string ht h
    exact ⟨[.v (.string s)], ⟨s, rfl, hs⟩, rfl, .one (.v rfl)⟩
  | .slice e, t, fuel, cs, x, ht, h => by
    unfold HasTp at ht
    obtain ⟨te, hu, hc, hnz, hte⟩ := ht
    rcases Deep.open_slice hu h with ⟨rfl, _⟩ | ⟨a, len, cap, m, n, Dd, Pl, rfl, hb, hl, hm, hmm, _, hi⟩
    · exact ⟨[.slc []], ⟨[], rfl, by simp, by simp⟩, rfl, .one .slc0⟩
    · have hlm : len ≤ m := by rw [hmm]; split <;> omega
      obtain ⟨xs, vals, h1, h2, h3, h4, h5⟩ := rows_rep (w := w) (base := base) (S := fun b => b < w.heap.size) (a := a) (n := e.n) (Q := fun x => (e.one = true → x.cells = [x]) ∧ (e.one = false → ∃ cs, x = .agg cs) ∧ WT e x.cells) len fun i hil => by
        obtain ⟨cs', hc', ht'⟩ := hi i (by omega)
        rw [hc] at hc'
        obtain ⟨ds, hw, hlen, hr⟩ := trod_wt e hte ht'
        cases he : e.one with
        | false => exact ⟨cs', .agg ds, hc', hr, hlen, by simp, fun _ => ⟨ds, rfl⟩, hw⟩
        | true =>
          have hn : e.n = 1 := one_n he
          rw [hn] at hlen
          match ds, hlen with
          | [d], _ =>
            have hdc : d.cells = [d] := one_cells he hw
            exact ⟨cs', d, hc', by rw [hdc]; exact hr, by rw [hdc, hn]; rfl, fun _ => hdc, by simp, by rw [hdc]; exact hw⟩
      by_cases hz : len = 0
      · subst hz
        exact ⟨[.slc []], ⟨[], rfl, by simp, by simp⟩, rfl, .one .slc0⟩
      · have hpos : 0 < len * e.n := Nat.mul_pos (by omega) hnz
        have h0 := h5 0 hpos
        have hv0 : 0 < vals.length := by omega
        rw [List.getElem?_eq_getElem hv0, show a.add 0 = a from rfl] at h0
        have hsp : a.spot = none ∧ a.block < w.heap.size := by
          unfold World.cell? at h0
          split at h0
          · rename_i hb'
            split at h0
            · cases h0
            · rename_i hs
              exact ⟨by simpa using hs, (Array.getElem?_eq_some_iff.1 hb').1⟩
          · cases h0
        obtain ⟨ab, ao, asp⟩ := a
        obtain ⟨hs1, hs2⟩ := hsp
        simp only at hs1 hs2
        subst hs1
        refine ⟨[.slc xs], ⟨xs, rfl, by rw [h1]; omega, fun x hx => (h4 x hx).2⟩, rfl, .one ?_⟩
        rw [← h1]
        refine Rep.slc (sz := e.n) hs2 h2 (cellsAt_of (n := len * e.n) (fun i hi => ?_) h3) (fun x hx => (h4 x hx).1) (by omega)
        have := h5 i hi
        rw [← this]
        unfold Addr.add
        split
        · rename_i hz; rw [hz]; rfl
        · rfl
  | .struct fs, t, fuel, cs, x, ht, h => by
    unfold HasTp at ht
    obtain ⟨Fs, hu, hF, hc⟩ := ht
    obtain ⟨xs, n, rfl, _, hlen, hxl, hf⟩ := DataW.trod_struct hu h
    obtain ⟨ds, hw, hl, hr⟩ := trods_wt fs (off := 0) (Fs := Fs) (cs := cs) (fuel := n) hF (by rw [hlen, hc]; omega) fun F hF' => by
      obtain ⟨i, hi, rfl⟩ := List.getElem_of_mem hF'
      have := hf i Fs[i] (by simp)
      have hx : i < xs.length := by rw [hxl]; simpa using hi
      rw [List.getElem?_eq_getElem hx] at this
      exact ⟨_, this⟩
    exact ⟨ds, hw, by rw [hl]; rfl, by simpa using hr⟩
theorem trods_wt : ∀ (fs : List Tp) {off : Nat} {Fs : List Field} {cs : List Value} {fuel : Nat}, HasTps P off fs Fs → cs.length = off + Tp.ns fs →
    (∀ F ∈ Fs, ∃ x, DataW.trod enc P w base spare held fuel F.type ((cs.drop F.offset).take (P.cellsOf F.type)) = some x) →
    ∃ ds, WTs fs ds ∧ ds.length = Tp.ns fs ∧ RepL w (fun b => b < w.heap.size) ds (cs.drop off)
  | [], off, Fs, cs, fuel, _, hl, _ => ⟨[], rfl, rfl, by rw [List.drop_of_length_le (by simp [Tp.ns] at hl; omega)]; exact .nil⟩
  | T :: Ts, off, Fs, cs, fuel, hF, hl, h => by
    unfold HasTps at hF
    obtain ⟨F, Fs', rfl, hoff, hc, hT, hTs⟩ := hF
    obtain ⟨x, hx⟩ := h F (by simp)
    obtain ⟨ds, hw, hdl, hr⟩ := trod_wt T hT hx
    simp only [Tp.ns] at hl
    obtain ⟨es, hw2, hel, hr2⟩ := trods_wt Ts hTs (cs := cs) (fuel := fuel) (by omega) fun F' hF' => h F' (by simp [hF'])
    refine ⟨ds ++ es, ⟨ds, es, rfl, hw, hw2⟩, by simp [Tp.ns, hdl, hel], ?_⟩
    have : cs.drop off = (cs.drop off).take T.n ++ cs.drop (off + T.n) := by
      conv => lhs; rw [← List.take_append_drop T.n (cs.drop off), List.drop_drop]
    rw [this]
    rw [hoff, hc] at hr
    exact hr.append hr2
end
end
end Go.Ab
namespace Go.Ab
open Go Go.RowKit Go.WideShapes Go.ChangeShapes
def WTv (T : Tp) (d : D) : Prop := (T.one = true → WT T [d]) ∧ (T.one = false → ∃ cs, d = .agg cs ∧ WT T cs)
def WTvs : List Tp → List D → Prop
  | [], ds => ds = []
  | T :: Ts, ds => ∃ d ds', ds = d :: ds' ∧ WTv T d ∧ WTvs Ts ds'
def HasAll (P : Program) : List Tp → List TypeId → Prop
  | [], ts => ts = []
  | T :: Ts, ts => ∃ t ts', ts = t :: ts' ∧ HasTp P T t ∧ HasAll P Ts ts'
section
variable {H : Type} {enc : TypeId × Value → H} {P : Program} {W : World} {base : Nat} {spare : Nat → Bool} {held : Bool}
theorem okWide_one {T : Tp} {t : TypeId} {v : Value} {r : Reach} (ho : T.one = true) (ht : HasTp P T t) (hv : Value.okWide P W r base t v) : v.cells.toList = [v] := by
  cases T with
  | int k => unfold HasTp at ht; obtain ⟨n, rfl⟩ := okWide_int ht hv; rfl
  | bool => unfold HasTp at ht; obtain ⟨n, rfl⟩ := okWide_bool ht hv; rfl
  | str => unfold HasTp at ht; obtain ⟨n, rfl⟩ := okWide_string ht hv; rfl
  | slice e => unfold HasTp at ht; obtain ⟨te, hu, _⟩ := ht; obtain ⟨a, l, c, rfl⟩ := okWide_slice hu hv; rfl
  | struct fs => cases ho
theorem arg_rep {T : Tp} {t : TypeId} {v : Value} {d : DataW H} {ps : List MemPlace} {r : Reach} {b0 : Nat} (ht : HasTp P T t) (h : DataW.Trod enc P W base spare held t v d ps) (hv : Value.okWide P W r b0 t v) :
    ∃ x, WTv T x ∧ Rep W (fun b => b < W.heap.size) x v := by
  obtain ⟨fuel, hf⟩ := h
  obtain ⟨ds, hw, hl, hr⟩ := trod_wt T ht hf
  cases ho : T.one with
  | true =>
    rw [okWide_one ho ht hv] at hr
    rw [one_n ho] at hl
    match ds, hl with
    | [x], _ =>
      obtain ⟨y, ys, he, h1, h2⟩ := hr.cons_inv
      simp only [List.cons.injEq] at he
      obtain ⟨rfl, _⟩ := he
      exact ⟨x, ⟨fun _ => hw, fun h => by rw [ho] at h; cases h⟩, h1⟩
  | false =>
    cases T with
    | struct fs =>
      unfold HasTp at ht
      obtain ⟨Fs, hu, _, _⟩ := ht
      obtain ⟨cs, rfl, hsz⟩ := okWide_struct hu hv
      exact ⟨.agg ds, ⟨(fun h => by cases h), fun _ => ⟨ds, rfl, hw⟩⟩, .agg hr⟩
    | _ => cases ho
theorem args_rep {r : Reach} {b0 : Nat} : ∀ (Ts : List Tp) {ts : List TypeId} {vs : List Value} {ds : List (DataW H)} {ps : List MemPlace}, HasAll P Ts ts → DataW.TrodAll enc P W base spare held ts vs ds ps →
    (∀ (j : Nat) t v, ts[j]? = some t → vs[j]? = some v → Value.okWide P W r b0 t v) → ∃ xs, WTvs Ts xs ∧ RepL W (fun b => b < W.heap.size) xs vs
  | [], ts, vs, ds, ps, hT, h, hv => by
    unfold HasAll at hT
    subst hT
    cases vs with
    | nil => exact ⟨[], rfl, .nil⟩
    | cons v vs => cases ds <;> simp [DataW.TrodAll] at h
  | T :: Ts, ts, vs, ds, ps, hT, h, hv => by
    obtain ⟨t, ts', rfl, h1, h2⟩ := hT
    cases vs with
    | nil => cases ds <;> simp [DataW.TrodAll] at h
    | cons v vs =>
      cases ds with
      | nil => simp [DataW.TrodAll] at h
      | cons d ds =>
        obtain ⟨p, q, hd, hr, rfl⟩ := h
        obtain ⟨x, hx, hrx⟩ := arg_rep h1 hd (hv 0 t v rfl rfl)
        obtain ⟨xs, hxs, hrs⟩ := args_rep Ts h2 hr fun j t v ht hv' => hv (j + 1) t v (by simpa using ht) (by simpa using hv')
        exact ⟨x :: xs, ⟨x, xs, rfl, hx, hxs⟩, .cons hrx hrs⟩
theorem law_calls {Ts : List Tp} {ts : List TypeId} {args : Array Value} {ds : List (DataW H)} {ps : List MemPlace} {r : Reach} {b0 : Nat} {k : FuncId} (law : ∀ xs, WTvs Ts xs → AC P k xs [] (fun e _ => e = .ret (.v (.bool true))))
    (hT : HasAll P Ts ts) (hA : DataW.TrodAll enc P W base spare held ts args.toList ds ps) (hv : ∀ (j : Nat) t v, ts[j]? = some t → args.toList[j]? = some v → Value.okWide P W r b0 t v) (hg : GOk W (fun b => b < W.heap.size)) :
    Calls P k args W fun e W' => e = .returned (.bool true) ∧ Below W.heap.size W W' := by
  obtain ⟨xs, hw, hr⟩ := args_rep Ts hT hA hv
  have := law xs hw W _ args.toList ⟨fun _ h => h, hg⟩ (fun b o h => by simp at h) hr
  rw [show args.toList.toArray = args by simp] at this
  refine this.mono ?_
  rintro e W' ⟨ae, σ', S', rfl, hend, _, hfr⟩
  cases e with
  | returned v =>
    have : v = .bool true := Rep.v_inv hend
    subst this
    exact ⟨rfl, ⟨hfr.os, hfr.tape, hfr.output, hfr.size, fun b hb => hfr.block b hb (fun h => h rfl)⟩⟩
  | panicked c => exact hend.elim
  | outgrown => exact hend.elim
theorem trodAll_stays (hl : laidOutB P = true) {W' : World} {sp : Nat → Bool} : ∀ {ts : List TypeId} {vs : List Value} {ds : List (DataW H)} {ps : List MemPlace}, (∀ t ∈ ts, P.readableRec t = true ∧ t < P.types.size) →
    DataW.TrodAll enc P W 0 (fun _ => true) true ts vs ds ps → (∀ x ∈ ps, x.block < W.heap.size) → Below W.heap.size W W' → (∀ x ∈ ps, sp x.block = true) → DataW.TrodAll enc P W' 0 sp true ts vs ds ps
  | [], vs, ds, ps, _, h, _, _, _ => by cases vs <;> cases ds <;> simp_all [DataW.TrodAll]
  | t :: ts, vs, ds, ps, hr, h, hlt, hb, hsp => by
    cases vs with
    | nil => cases ds <;> simp [DataW.TrodAll] at h
    | cons v vs =>
      cases ds with
      | nil => simp [DataW.TrodAll] at h
      | cons d ds =>
        obtain ⟨p, q, hd, hrest, rfl⟩ := h
        refine ⟨p, q, ?_, trodAll_stays hl (fun t ht => hr t (by simp [ht])) hrest (fun x hx => hlt x (by simp [hx])) hb (fun x hx => hsp x (by simp [hx])), rfl⟩
        exact WideElems.Trod_stays hl (hr t (by simp)).1 (hr t (by simp)).2 hd (fun x hx => hb.same (hlt x (by simp [hx]))) (fun x hx => hsp x (by simp [hx]))
theorem post_true {f : Func} {s : ChangeSpec} {W' : World} {args : Array Value} {ds gs : List (DataW H)} {before : List MemPlace} (hW : DataW.Whole enc P f.params.toList s.vars false W args.toList ds gs before)
    (hl : laidOutB P = true) (hr : ∀ t ∈ f.params.toList, P.readableRec t = true ∧ t < P.types.size) {tb : TypeId} (htb : P.underlying tb = some .bool) (hres : f.resultTypes = #[tb]) (hvars : s.vars = [])
    (hfn : s.fn H (ds ++ gs) = { results := [.lit (.bool true)], args := ds }) (hb : Below W.heap.size W W') : s.post enc P f false true false false W args (.bool true) W' := by
  obtain ⟨p, q, hA, hV, rfl, hz, hn⟩ := hW
  have hW : DataW.Whole enc P f.params.toList s.vars false W args.toList ds gs (p ++ q) := ⟨p, q, hA, hV, rfl, hz, hn⟩
  rw [hvars] at hV
  obtain ⟨rfl, rfl⟩ := trodVars_none hV
  have hlt : ∀ x ∈ p ++ [], x.block < W.heap.size := fun x hx => hW.lt x hx
  have hlt' : ∀ x ∈ p, x.block < W.heap.size := fun x hx => hlt x (by simpa using hx)
  have hargs : ∀ sp : Nat → Bool, (∀ x ∈ p, sp x.block = true) → DataW.TrodAll enc P W' 0 sp true f.params.toList args.toList ds p := fun sp hsp => trodAll_stays hl hr hA hlt' hb hsp
  refine ⟨ds, [], p ++ [], [], p, [], hW, ?_, ?_, ?_, ?_, fun h => by cases h⟩
  · rw [hres, hfn]
    exact trodAll_mk1 (shut_bool htb _)
  · rw [hfn]
    exact hargs _ fun x hx => by simpa using hlt' x hx
  · rw [hvars, hfn]; rfl
  · exact World.keptBut_mono (fun x hx => ⟨hx, Or.inr (by simpa using hx)⟩) (hb.frame (· ∈ p ++ []))
end
end Go.Ab
namespace Go.Ab
open Go
mutual
def hasTpB (P : Program) : Tp → TypeId → Bool
  | .int k, t => match P.underlying t with | some (.int k') => decide (k' = k) | _ => false
  | .bool, t => match P.underlying t with | some .bool => true | _ => false
  | .str, t => match P.underlying t with | some .string => true | _ => false
  | .slice e, t => match P.underlying t with | some (.slice te) => decide (P.cellsOf te = e.n) && decide (0 < e.n) && hasTpB P e te | _ => false
  | .struct fs, t => match P.underlying t with | some (.struct Fs) => hasTpsB P 0 fs Fs.toList && decide (P.cellsOf t = Tp.ns fs) | _ => false
def hasTpsB (P : Program) : Nat → List Tp → List Field → Bool
  | _, [], Fs => Fs.isEmpty
  | off, T :: Ts, F :: Fs => decide (F.offset = off) && decide (P.cellsOf F.type = T.n) && hasTpB P T F.type && hasTpsB P (off + T.n) Ts Fs
  | _, _ :: _, [] => false
end
mutual
theorem hasTp_of {P : Program} : ∀ (T : Tp) {t : TypeId}, hasTpB P T t = true → HasTp P T t
  | .int k, t, h => by
    unfold hasTpB at h; unfold HasTp
    split at h
    · rename_i hu; rw [hu, of_decide_eq_true h]
    · cases h
  | .bool, t, h => by
    unfold hasTpB at h; unfold HasTp
    split at h
    · assumption
    · cases h
  | .str, t, h => by
    unfold hasTpB at h; unfold HasTp
    split at h
    · assumption
    · cases h
  | .slice e, t, h => by
    unfold hasTpB at h; unfold HasTp
    split at h
    · rename_i te hu
      simp only [Bool.and_eq_true, decide_eq_true_eq] at h
      exact ⟨te, hu, h.1.1, h.1.2, hasTp_of e h.2⟩
    · cases h
  | .struct fs, t, h => by
    unfold hasTpB at h; unfold HasTp
    split at h
    · rename_i Fs hu
      simp only [Bool.and_eq_true, decide_eq_true_eq] at h
      exact ⟨Fs.toList, by rw [hu], hasTps_of fs h.1, h.2⟩
    · cases h
theorem hasTps_of {P : Program} : ∀ (fs : List Tp) {off : Nat} {Fs : List Field}, hasTpsB P off fs Fs = true → HasTps P off fs Fs
  | [], off, Fs, h => by
    unfold hasTpsB at h; unfold HasTps
    simpa using h
  | T :: Ts, off, [], h => by unfold hasTpsB at h; cases h
  | T :: Ts, off, F :: Fs, h => by
    unfold hasTpsB at h; unfold HasTps
    simp only [Bool.and_eq_true, decide_eq_true_eq] at h
    exact ⟨F, Fs, rfl, h.1.1.1, h.1.1.2, hasTp_of T h.1.2, hasTps_of Ts h.2⟩
end
def hasAllB (P : Program) : List Tp → List TypeId → Bool
  | [], ts => ts.isEmpty
  | T :: Ts, t :: ts => hasTpB P T t && hasAllB P Ts ts
  | _ :: _, [] => false
theorem hasAll_of {P : Program} : ∀ (Ts : List Tp) {ts : List TypeId}, hasAllB P Ts ts = true → HasAll P Ts ts
  | [], ts, h => by unfold hasAllB at h; unfold HasAll; simpa using h
  | T :: Ts, [], h => by unfold hasAllB at h; cases h
  | T :: Ts, t :: ts, h => by
    unfold hasAllB at h; unfold HasAll
    simp only [Bool.and_eq_true] at h
    exact ⟨t, ts, rfl, hasTp_of T h.1, hasAll_of Ts h.2⟩
inductive Tr where
  | nil
  | op (i : Nat) (early : Bool) (rest : Tr)
  | alt (i j : Nat) (a b : Tr)
def Tr.len : Tr → Nat
  | .nil => 0
  | .op _ _ r => r.len + 1
  | .alt _ _ a b => max a.len b.len + 1
section draw
variable {P : Program} {N : Slots} {C : Ctx P N} {K : Env → Store → Prop} {Qp : D → Store → Prop}
def vcT (P : Program) (N : Slots) (lit bs lasts : List Nat) (ops : Array Oper) (K : Env → Store → Prop) (Qp : D → Store → Prop) : Tr → Env → Store → Prop
  | .nil, env, σ => K env σ
  | .op i early rest, env, σ => opK ops[i]? fun o =>
      if early = true then Fixed lit bs env o ∧ vcStep P N lit (dsts ops) Qp (vcT P N lit bs lasts ops K Qp rest) o env σ
      else vcStep P N lit (dsts ops) Qp (fun env' σ' => Keep bs lasts i σ σ' ∧ vcT P N lit bs lasts ops K Qp rest env' σ') o env σ
  | .alt i j a b, env, σ => (opK ops[i]? fun o => vcStep P N lit (dsts ops) Qp (fun env' σ' => Keep bs lasts i σ σ' ∧ vcT P N lit bs lasts ops K Qp a env' σ') o env σ) ∧
      opK ops[j]? fun o => vcStep P N lit (dsts ops) Qp (fun env' σ' => Keep bs lasts j σ σ' ∧ vcT P N lit bs lasts ops K Qp b env' σ') o env σ
section
variable {lit bs lasts : List Nat} {ops : Array Oper} {env : Env} {σ : Store}
@[go_sem] theorem vcT_nil : vcT P N lit bs lasts ops K Qp .nil env σ = K env σ := rfl
@[go_sem] theorem vcT_true (i : Nat) (r : Tr) : vcT P N lit bs lasts ops K Qp (.op i true r) env σ = opK ops[i]? fun o => Fixed lit bs env o ∧ vcStep P N lit (dsts ops) Qp (vcT P N lit bs lasts ops K Qp r) o env σ := by
  simp only [vcT, if_true]
@[go_sem] theorem vcT_false (i : Nat) (r : Tr) : vcT P N lit bs lasts ops K Qp (.op i false r) env σ = opK ops[i]? fun o => vcStep P N lit (dsts ops) Qp (fun env' σ' => Keep bs lasts i σ σ' ∧ vcT P N lit bs lasts ops K Qp r env' σ') o env σ := by
  simp only [vcT, Bool.false_eq_true, if_false]
@[go_sem] theorem vcT_alt (i j : Nat) (a b : Tr) : vcT P N lit bs lasts ops K Qp (.alt i j a b) env σ = ((opK ops[i]? fun o => vcStep P N lit (dsts ops) Qp (fun env' σ' => Keep bs lasts i σ σ' ∧ vcT P N lit bs lasts ops K Qp a env' σ') o env σ) ∧
      opK ops[j]? fun o => vcStep P N lit (dsts ops) Qp (fun env' σ' => Keep bs lasts j σ σ' ∧ vcT P N lit bs lasts ops K Qp b env' σ') o env σ) := rfl
end
def okT (lasts : List Nat) (ops : Array Oper) : Tr → Array Bool → Bool
  | .nil, listed => Region.ready .any ops listed == []
  | .op i early rest, listed =>
    (if early = true then (Region.ready .any ops listed).contains i && freeL lasts ops listed i else Region.ready .any ops listed == [i]) && okT lasts ops rest (listed.setIfInBounds i true)
  | .alt i j a b, listed => Region.ready .any ops listed == [i, j] && okT lasts ops a (listed.setIfInBounds i true) && okT lasts ops b (listed.setIfInBounds j true)
theorem vcT_any {lit bs lasts : List Nat} {ops : Array Oper} (hK : ∀ e e' σ, EEq e e' → K e σ → K e' σ) : ∀ (tr : Tr) (fuel : Nat) (listed : Array Bool) (env : Env) (σ : Store), okT lasts ops tr listed = true → tr.len ≤ fuel →
    vcT P N lit bs lasts ops K Qp tr env σ → vcAny P N lit bs lasts ops K Qp fuel listed env σ
  | .nil, fuel, listed, env, σ, hok, _, h => by
    have hr : Region.ready .any ops listed = [] := by simpa [okT] using hok
    cases fuel with
    | zero => exact ⟨hr, h⟩
    | succ n => exact ⟨fun _ => h, by rw [hr]; simp⟩
  | .op i early rest, 0, listed, env, σ, _, hl, _ => by simp [Tr.len] at hl
  | .alt i j a b, 0, listed, env, σ, _, hl, _ => by simp [Tr.len] at hl
  | .alt i j a b, fuel + 1, listed, env, σ, hok, hl, h => by
    simp only [okT, Bool.and_eq_true, beq_iff_eq] at hok
    obtain ⟨⟨h1, h2⟩, h3⟩ := hok
    have hla : a.len ≤ fuel := by simp only [Tr.len] at hl; omega
    have hlb : b.len ≤ fuel := by simp only [Tr.len] at hl; omega
    rw [vcT_alt] at h
    refine ⟨fun hr => (by rw [h1] at hr; cases hr), fun k hk => ?_⟩
    rw [h1] at hk
    simp only [List.mem_cons, List.not_mem_nil, or_false] at hk
    unfold opK at h
    unfold vcOp
    rcases hk with rfl | rfl
    · cases ho : ops[k]? with
      | none => rw [ho] at h; exact h.1.elim
      | some o =>
        rw [ho] at h
        exact vcStep_mono h.1 rfl (fun _ _ _ => rfl) fun d s hs => ⟨hs.1, vcT_any hK a fuel _ _ _ h2 hla hs.2⟩
    · cases ho : ops[k]? with
      | none => rw [ho] at h; exact h.2.elim
      | some o =>
        rw [ho] at h
        exact vcStep_mono h.2 rfl (fun _ _ _ => rfl) fun d s hs => ⟨hs.1, vcT_any hK b fuel _ _ _ h3 hlb hs.2⟩
  | .op i early rest, fuel + 1, listed, env, σ, hok, hl, h => by
    simp only [okT, Bool.and_eq_true] at hok
    obtain ⟨h1, h2⟩ := hok
    have hl' : rest.len ≤ fuel := by simp only [Tr.len] at hl; omega
    simp only [vcT, opK] at h
    split at h
    · cases early with
      | true =>
        rename_i o ho
        simp only [if_true, Bool.and_eq_true] at h1 h
        obtain ⟨hF, hN, hs⟩ := h
        have hsp := fixed_spec P lit bs env σ σ o hF fun _ _ => rfl
        have hval : ∀ {n : Env → Store → Prop}, vcRes P Qp n o.dst env σ (aopD P lit env σ o) → ∃ p d, aopD P lit env σ o = .val p d ∧ p ∧ n (eputo o.dst d env) σ := by
          intro n hv
          have hone := hsp.1
          cases hr : aopD P lit env σ o <;> rw [hr] at hv hone <;> try exact hone.elim
          · exact ⟨_, _, rfl, hv.1, hv.2⟩
          · exact hv.elim
        have key : ∃ d, Outc P lit (dsts ops) env σ o d ∧ vcT P N lit bs lasts ops K Qp rest (eputo o.dst d env) σ := by
          unfold Outc
          cases hg : o.guard with
          | none =>
            rw [hg] at hs
            obtain ⟨p, d, e1, e2, e3⟩ := hval hs
            exact ⟨d, ⟨p, e1, e2⟩, e3⟩
          | some q =>
            obtain ⟨j, want⟩ := q
            rw [hg] at hs
            dsimp only at hs ⊢
            split at hs
            · rename_i t ht
              by_cases htw : t = want
              · obtain ⟨p, d, e1, e2, e3⟩ := hval (hs.1 htw)
                exact ⟨d, .inl ⟨t, ht, fun _ => ⟨p, e1, e2⟩, fun h => by subst htw; cases t <;> cases h⟩, e3⟩
              · have htw' : t = !want := by cases t <;> cases want <;> simp_all
                exact ⟨_, .inl ⟨t, ht, fun h => absurd h htw, fun _ => rfl⟩, hs.2 htw'⟩
            · rename_i ht; exact ⟨_, .inr ⟨ht, rfl⟩, hs⟩
            · exact hs.elim
        obtain ⟨d, hO, hn⟩ := key
        exact vcAny_first hK ho hN fuel listed env σ (freeL_spec ho h1.2) (by simpa using h1.1) hF hO (vcT_any hK rest fuel _ _ _ h2 hl' hn)
      | false =>
        rename_i o ho
        simp only [Bool.false_eq_true, if_false, beq_iff_eq] at h1 h
        refine ⟨fun hr => (by rw [h1] at hr; cases hr), fun j hj => ?_⟩
        rw [h1] at hj
        simp only [List.mem_singleton] at hj
        subst hj
        unfold vcOp
        rw [ho]
        exact vcStep_mono h rfl (fun _ _ _ => rfl) fun d s hs => ⟨hs.1, vcT_any hK rest fuel _ _ _ h2 hl' hs.2⟩
    · exact h.elim
theorem Gs.drawT {id : Nat} {ops : Array Oper} {k : List Item} {env : Env} {σ : Store} (keep lit bs lasts : List Nat) (tr : Tr) (hm : P.follows .mixedOrders = true) (hl : tr.len ≤ ops.size) (hok : okT lasts ops tr (Array.replicate ops.size false) = true)
    (h : ∀ K : Env → Store → Prop, (∀ env σ, Gs C k env σ → K env σ) → vcT P N lit bs lasts ops K (Pan C) tr (Ab.rebase keep env) σ) (hnd : ndB ops = true := by kernel_rfl) : Gs C (.code (.region id ops true) :: k) env σ := by
  intro a w S hd hs
  have hv := vcT_any (Qp := Pan C) (K := Gs C k) (fun e e' s he hg => Gs.le (fun k => .inr (he k)) (SLe.refl s) hg) tr ops.size (Array.replicate ops.size false) _ _ hok hl (h (Gs C k) (fun _ _ h => h))
  have hs' : Sim C (Ab.rebase keep env) σ w S a.tmps := ⟨hs.env.le (ele_rebase keep env), hs.store, hs.fr, hs.size⟩
  have hl := vcAny_sound ops.size _ _ σ a _ S hv hd (hs'.draw (w.drawn + 1))
  refine C.hZ _ _ (.one stepR_region_draw) (ops_run hnd _ a _ ?_)
  simp only [Region.schedule, hm, Bool.true_or, if_true]
  exact wpAny_sound ops.size _ _ a _ hl
end draw
end Go.Ab
namespace Go.Ab.S16
open Go Go.Proofs
def sD (s : ByteArray) : D := .v (.string s)
def idxI {α : Type} (p : α → Bool) (l : List α) : Int := match l.findIdx? p with
  | some i => i
  | none => -1
theorem idxI_none {α : Type} {p : α → Bool} {l : List α} (h : ∀ x ∈ l, p x = false) : idxI p l = -1 := by
  unfold idxI
  rw [List.findIdx?_eq_none_iff.2 h]
theorem idxI_at {α : Type} {p : α → Bool} : ∀ {l : List α} {i : Nat} (hi : i < l.length), (∀ x ∈ l.take i, p x = false) → p l[i] = true → idxI p l = i
  | x :: l, 0, hi, _, h => by
    have h : p x = true := h
    simp [idxI, List.findIdx?_cons, h]
  | x :: l, i + 1, hi, h0, h => by
    have hx := h0 x (by simp)
    have := idxI_at (p := p) (l := l) (i := i) (by simpa using hi) (fun y hy => h0 y (by simp [hy])) (by simpa using h)
    unfold idxI at this ⊢
    rw [List.findIdx?_cons, hx]
    simp only [Bool.false_eq_true, if_false]
    cases hf : l.findIdx? p with
    | none => rw [hf] at this; simp only [] at this; omega
    | some k => rw [hf] at this; simp only [Option.map_some] at this ⊢; omega
theorem idxI_ge {α : Type} (p : α → Bool) (l : List α) : decide (idxI p l ≥ 0) = l.any p := by
  unfold idxI
  cases hf : l.findIdx? p with
  | none =>
    have := List.findIdx?_eq_none_iff.1 hf
    rw [List.any_eq_false.2 (fun x hx => by rw [this x hx]; simp)]; rfl
  | some i =>
    obtain ⟨h1, h2, _⟩ := List.findIdx?_eq_some_iff_getElem.1 hf
    rw [List.any_eq_true.2 ⟨_, List.getElem_mem h1, h2⟩]
    simp
theorem index_str (l : List ByteArray) (v : ByteArray) (σ : Store) (hl : l.length < 2 ^ 40) :
    AC Tryz.prog 89 [.slc (l.map sD), .v (.string v)] σ (fun e σ' => e = .ret (.v (.int .i64 (idxI (fun s => v.toList == s.toList) l))) ∧ σ' = σ) := by
  have hll : (l.map sD).length = l.length := List.length_map ..
  refine AC.of_body Tryz.func89 rfl Tryz.ntmps89 (by simp) fun C hC => ?_
  repeat' (first | refine Gs.sq ?_ | refine Gs.sk ?_ | refine Gs.ib ?_ | refine Gs.bk ?_ | refine Gs.exit rfl ?_ | (refine Gs.rg [0, 1] fun K hK => ?_; simp (maxSteps:=9^7) only [go_sem]; refine hK _ _ ?_; clear hK K))
  refine Gs.rebase [0, 1, 6, 7, 8] ?_
  simp only [go_sem]
  refine Gs.while (fun (i : Nat) env' σ' => i ≤ l.length ∧ (∀ s ∈ l.take i, (v.toList == s.toList) = false) ∧ env' = [(0, .slc (l.map sD)), (1, .v (.string v)), (6, .slc (l.map sD)), (7, .v (.int .i64 (l.length : Int))), (8, .v (.int .i64 (i : Int)))] ∧ σ' = σ) (fun i => l.length - i) 0 ⟨by omega, by simp, by rw [hll]; rfl, rfl⟩ ?_
  rintro i env' σ' ⟨hi, hall, rfl, rfl⟩ ih
  repeat' (first | refine Gs.sq ?_ | refine Gs.sk ?_ | refine Gs.ib ?_ | refine Gs.bk ?_ | refine Gs.exit rfl ?_ | (refine Gs.rg [0, 1, 6, 7, 8] fun K hK => ?_; simp (maxSteps:=9^7) only [go_sem]; refine hK _ _ ?_; clear hK K))
  refine Gs.cond rfl (fun h => ?_) (fun h => ?_)
  · have hlt : i < l.length := by simpa using h
    have hg := getD_map_lt sD l i hlt
    rw [sD] at hg
    have hi0 : (0 : Int) ≤ (i : Int) := by omega
    have hi1 : (i : Int) < ((l.map sD).length : Int) := by omega
    repeat' (first | refine Gs.sq ?_ | refine Gs.sk ?_ | refine Gs.ib ?_ | refine Gs.bk ?_ | refine Gs.exit rfl ?_ | (refine Gs.rg [0, 1, 5, 6, 7, 8] fun K hK => ?_; simp (maxSteps:=9^7) only [go_sem, hg, hi0, hi1]; refine hK _ _ ?_; clear hK K))
    refine Gs.cond rfl (fun hc => ?_) (fun hc => ?_)
    · repeat' (first | refine Gs.sq ?_ | refine Gs.sk ?_ | refine Gs.ib ?_ | refine Gs.bk ?_ | refine Gs.exit rfl ?_ | (refine Gs.rg [5] fun K hK => ?_; simp (maxSteps:=9^7) only [go_sem]; refine hK _ _ ?_; clear hK K))
      refine Gs.ret hC Tryz.func89 (by simp [go_sem]) ?_
      simp only [go_sem]
      rw [idxI_at hlt hall hc]
    · repeat' (first | refine Gs.sq ?_ | refine Gs.sk ?_ | refine Gs.ib ?_ | refine Gs.bk ?_ | refine Gs.exit rfl ?_ | (refine Gs.rg [0, 1, 6, 7, 8] fun K hK => ?_; simp (maxSteps:=9^7) only [go_sem]; refine hK _ _ ?_; clear hK K))
      refine Gs.rebase [0, 1, 6, 7, 8] ?_
      simp only [go_sem]
      rw [wrap_succ i (by omega)]
      refine ih (i + 1) _ _ ⟨by omega, fun s hs => ?_, rfl, rfl⟩ (by omega)
      rw [List.take_succ_eq_append_getElem hlt] at hs
      rcases List.mem_append.1 hs with hs | hs
      · exact hall s hs
      · simp only [List.mem_singleton] at hs; rw [hs]; exact hc
  · have : i = l.length := by simp at h; omega
    subst this
    rw [List.take_length] at hall
    repeat' (first | refine Gs.sq ?_ | refine Gs.sk ?_ | refine Gs.ib ?_ | refine Gs.bk ?_ | refine Gs.exit rfl ?_ | (refine Gs.rg [0] fun K hK => ?_; simp (maxSteps:=9^7) only [go_sem]; refine hK _ _ ?_; clear hK K))
    refine Gs.ret hC Tryz.func89 (by simp [go_sem]) ?_
    simp only [go_sem]
    rw [idxI_none hall]
theorem contains_str (l : List ByteArray) (v : ByteArray) (σ : Store) (hl : l.length < 2 ^ 40) :
    AC Tryz.prog 50 [.slc (l.map sD), .v (.string v)] σ (fun e σ' => e = .ret (.v (.bool (l.any fun s => v.toList == s.toList))) ∧ σ' = σ) := by
  refine AC.of_body Tryz.func50 rfl Tryz.ntmps50 (by simp) fun C hC => ?_
  refine Gs.sq (Gs.rg [0, 1] fun K hK => ?_); simp (maxSteps:=9^7) only [go_sem]
  refine hK _ _ ?_; clear hK K
  refine Gs.sq (Gs.rg [0, 1] fun K hK => ?_); simp (maxSteps:=9^7) only [go_sem]
  refine ⟨_, Tryz.call89, (index_str l v σ hl).mono ?_⟩
  rintro e σ1 ⟨rfl, rfl⟩
  simp only [go_sem]
  refine hK _ _ ?_; clear hK K
  refine Gs.ret hC Tryz.func50 (by simp [go_sem]) ?_
  simp only [go_sem]
  rw [idxI_ge]
structure Tests (caps : List D) (g : FuncId) (p : ByteArray → Bool) (l : List ByteArray) (σ : Store) : Prop where
  call : ∀ args w, (callFunc g args).run Tryz.prog w = .ok (.enter g args) w
  ans : ∀ x ∈ l, AC Tryz.prog g (sD x :: caps) σ (fun e σ' => e = .ret (.v (.bool (p x))) ∧ σ' = σ)
theorem indexFunc_str (l : List ByteArray) (g : FuncId) (caps : List D) (p : ByteArray → Bool) (σ : Store) (hl : l.length < 2 ^ 40) (ht : Tests caps g p l σ) :
    AC Tryz.prog 74 [.slc (l.map sD), .clo (.func g) [] caps] σ (fun e σ' => e = .ret (.v (.int .i64 (idxI p l))) ∧ σ' = σ) := by
  have hll : (l.map sD).length = l.length := List.length_map ..
  refine AC.of_body Tryz.func74 rfl Tryz.ntmps74 (by simp) fun C hC => ?_
  repeat' (first | refine Gs.sq ?_ | refine Gs.sk ?_ | refine Gs.ib ?_ | refine Gs.bk ?_ | refine Gs.exit rfl ?_ | (refine Gs.rg [0, 1] fun K hK => ?_; simp (maxSteps:=9^7) only [go_sem]; refine hK _ _ ?_; clear hK K))
  refine Gs.rebase [0, 1, 6, 7, 8] ?_
  simp only [go_sem]
  refine Gs.while (fun (i : Nat) env' σ' => i ≤ l.length ∧ (∀ s ∈ l.take i, p s = false) ∧ env' = [(0, .slc (l.map sD)), (1, .clo (.func g) [] caps), (6, .slc (l.map sD)), (7, .v (.int .i64 (l.length : Int))), (8, .v (.int .i64 (i : Int)))] ∧ σ' = σ) (fun i => l.length - i) 0 ⟨by omega, by simp, by rw [hll]; rfl, rfl⟩ ?_
  rintro i env' σ' ⟨hi, hall, rfl, rfl⟩ ih
  repeat' (first | refine Gs.sq ?_ | refine Gs.sk ?_ | refine Gs.ib ?_ | refine Gs.bk ?_ | refine Gs.exit rfl ?_ | (refine Gs.rg [0, 1, 6, 7, 8] fun K hK => ?_; simp (maxSteps:=9^7) only [go_sem]; refine hK _ _ ?_; clear hK K))
  refine Gs.cond rfl (fun h => ?_) (fun h => ?_)
  · have hlt : i < l.length := by simpa using h
    have hg := getD_map_lt sD l i hlt
    rw [sD] at hg
    have hi0 : (0 : Int) ≤ (i : Int) := by omega
    have hi1 : (i : Int) < ((l.map sD).length : Int) := by omega
    refine Gs.sk ?_
    refine Gs.sq ?_
    refine Gs.bk ?_
    refine Gs.sq (Gs.rg [0, 1, 6, 7, 8] fun K hK => ?_); simp (maxSteps:=9^7) only [go_sem]
    refine hK _ _ ?_; clear hK K
    refine Gs.sq (Gs.rg [0, 1, 5, 6, 7, 8] fun K hK => ?_); simp (maxSteps:=9^7) only [go_sem, hg, hi0, hi1]
    refine ⟨g, ht.call, ?_⟩
    refine (ht.ans l[i] (List.getElem_mem hlt)).mono ?_
    rintro e σ1 ⟨rfl, rfl⟩
    simp only [go_sem]
    refine hK _ _ (Gs.cond rfl (fun hc => ?_) (fun hc => ?_)); all_goals clear hK K
    · repeat' (first | refine Gs.sq ?_ | refine Gs.sk ?_ | refine Gs.ib ?_ | refine Gs.bk ?_ | refine Gs.exit rfl ?_ | (refine Gs.rg [5] fun K hK => ?_; simp (maxSteps:=9^7) only [go_sem]; refine hK _ _ ?_; clear hK K))
      refine Gs.ret hC Tryz.func74 (by simp [go_sem]) ?_
      simp only [go_sem]
      rw [idxI_at hlt hall hc]
    · repeat' (first | refine Gs.sq ?_ | refine Gs.sk ?_ | refine Gs.ib ?_ | refine Gs.bk ?_ | refine Gs.exit rfl ?_ | (refine Gs.rg [0, 1, 6, 7, 8] fun K hK => ?_; simp (maxSteps:=9^7) only [go_sem]; refine hK _ _ ?_; clear hK K))
      refine Gs.rebase [0, 1, 6, 7, 8] ?_
      simp only [go_sem]
      rw [wrap_succ i (by omega)]
      refine ih (i + 1) _ _ ⟨by omega, fun s hs => ?_, rfl, rfl⟩ (by omega)
      rw [List.take_succ_eq_append_getElem hlt] at hs
      rcases List.mem_append.1 hs with hs | hs
      · exact hall s hs
      · simp only [List.mem_singleton] at hs; rw [hs]; exact hc
  · have : i = l.length := by simp at h; omega
    subst this
    rw [List.take_length] at hall
    repeat' (first | refine Gs.sq ?_ | refine Gs.sk ?_ | refine Gs.ib ?_ | refine Gs.bk ?_ | refine Gs.exit rfl ?_ | (refine Gs.rg [0] fun K hK => ?_; simp (maxSteps:=9^7) only [go_sem]; refine hK _ _ ?_; clear hK K))
    refine Gs.ret hC Tryz.func74 (by simp [go_sem]) ?_
    simp only [go_sem]
    rw [idxI_none hall]
theorem containsFunc_str (l : List ByteArray) (g : FuncId) (caps : List D) (p : ByteArray → Bool) (σ : Store) (hl : l.length < 2 ^ 40) (ht : Tests caps g p l σ) :
    AC Tryz.prog 34 [.slc (l.map sD), .clo (.func g) [] caps] σ (fun e σ' => e = .ret (.v (.bool (l.any p))) ∧ σ' = σ) := by
  refine AC.of_body Tryz.func34 rfl Tryz.ntmps34 (by simp) fun C hC => ?_
  refine Gs.sq (Gs.rg [0, 1] fun K hK => ?_); simp (maxSteps:=9^7) only [go_sem]
  refine hK _ _ ?_; clear hK K
  refine Gs.sq (Gs.rg [0, 1] fun K hK => ?_); simp (maxSteps:=9^7) only [go_sem]
  refine ⟨_, Tryz.call74, (indexFunc_str l g caps p σ hl ht).mono ?_⟩
  rintro e σ1 ⟨rfl, rfl⟩
  simp only [go_sem]
  refine hK _ _ ?_; clear hK K
  refine Gs.ret hC Tryz.func34 (by simp [go_sem]) ?_
  simp only [go_sem]
  rw [idxI_ge]
theorem clone_str (xs : List D) (σ : Store) (hp : ∀ x ∈ xs, x.cells.length = 1 ∧ x.plain = true) (hl : xs.length < 2 ^ 40) :
    AC Tryz.prog 52 [.slc xs] σ (fun e σ' => e = .ret (.slc xs) ∧ σ' = σ) := by
  refine AC.ret_le (R := fun e σ' => (e = .ret (.slc xs) ∧ σ' = σ) ∨ (xs = [] ∧ e = .ret (.v (.slice none 0 0)) ∧ σ' = σ)) ?_ fun e σ' h => ?_
  rotate_left
  · rcases h with h | ⟨rfl, rfl, rfl⟩
    · exact .inl h
    · exact .inr ⟨_, _, rfl, DLe.nil_slc, rfl, rfl⟩
  refine AC.of_body Tryz.func52 rfl Tryz.ntmps52 (by simp) fun C hC => ?_
  repeat' (first | refine Gs.sq ?_ | refine Gs.sk ?_ | refine Gs.ib ?_ | refine Gs.bk ?_ | refine Gs.exit rfl ?_ | (refine Gs.rg [0, 2] fun K hK => ?_; simp (maxSteps:=9^7) only [go_sem]; refine hK _ _ ?_; clear hK K))
  refine Gs.rg [0, 2] fun K hK => ?_; simp (maxSteps:=9^7) only [go_sem]
  intro t ht
  refine hK _ _ ?_; clear hK K
  refine Gs.cond rfl (fun h => ?_) (fun h => ?_)
  · have hx : xs = [] := by
      cases xs with
      | nil => rfl
      | cons a l => have := ht (by simp); rw [h] at this; cases this
    repeat' (first | refine Gs.sq ?_ | refine Gs.sk ?_ | refine Gs.ib ?_ | refine Gs.bk ?_ | refine Gs.exit rfl ?_ | (refine Gs.rg [2] fun K hK => ?_; simp (maxSteps:=9^7) only [go_sem]; refine hK _ _ ?_; clear hK K))
    refine Gs.ret hC Tryz.func52 (by simp [go_sem]) ?_
    simp only [go_sem]
    exact .inr hx
  · repeat' (first | refine Gs.sq ?_ | refine Gs.sk ?_ | refine Gs.ib ?_ | refine Gs.bk ?_ | refine Gs.exit rfl ?_ | (refine Gs.rg [0, 2] fun K hK => ?_; simp (maxSteps:=9^7) only [go_sem]; refine hK _ _ ?_; clear hK K))
    refine Gs.regionM [0, 2] [5, 7] fun K hK => ?_; simp (maxSteps:=9^7) only [go_sem]
    refine ⟨⟨hp, by omega, by omega⟩, hK _ _ ?_⟩
    refine Gs.ret hC Tryz.func52 (by simp [go_sem]) ?_
    simp only [go_sem]
theorem clone_byte (xs : List D) (σ : Store) (hp : ∀ x ∈ xs, x.cells.length = 1 ∧ x.plain = true) (hl : xs.length < 2 ^ 40) :
    AC Tryz.prog 67 [.slc xs] σ (fun e σ' => e = .ret (.slc xs) ∧ σ' = σ) := by
  refine AC.ret_le (R := fun e σ' => (e = .ret (.slc xs) ∧ σ' = σ) ∨ (xs = [] ∧ e = .ret (.v (.slice none 0 0)) ∧ σ' = σ)) ?_ fun e σ' h => ?_
  rotate_left
  · rcases h with h | ⟨rfl, rfl, rfl⟩
    · exact .inl h
    · exact .inr ⟨_, _, rfl, DLe.nil_slc, rfl, rfl⟩
  refine AC.of_body Tryz.func67 rfl Tryz.ntmps67 (by simp) fun C hC => ?_
  repeat' (first | refine Gs.sq ?_ | refine Gs.sk ?_ | refine Gs.ib ?_ | refine Gs.bk ?_ | refine Gs.exit rfl ?_ | (refine Gs.rg [0, 2] fun K hK => ?_; simp (maxSteps:=9^7) only [go_sem]; refine hK _ _ ?_; clear hK K))
  refine Gs.rg [0, 2] fun K hK => ?_; simp (maxSteps:=9^7) only [go_sem]
  intro t ht
  refine hK _ _ ?_; clear hK K
  refine Gs.cond rfl (fun h => ?_) (fun h => ?_)
  · have hx : xs = [] := by
      cases xs with
      | nil => rfl
      | cons a l => have := ht (by simp); rw [h] at this; cases this
    repeat' (first | refine Gs.sq ?_ | refine Gs.sk ?_ | refine Gs.ib ?_ | refine Gs.bk ?_ | refine Gs.exit rfl ?_ | (refine Gs.rg [2] fun K hK => ?_; simp (maxSteps:=9^7) only [go_sem]; refine hK _ _ ?_; clear hK K))
    refine Gs.ret hC Tryz.func67 (by simp [go_sem]) ?_
    simp only [go_sem]
    exact .inr hx
  · repeat' (first | refine Gs.sq ?_ | refine Gs.sk ?_ | refine Gs.ib ?_ | refine Gs.bk ?_ | refine Gs.exit rfl ?_ | (refine Gs.rg [0, 2] fun K hK => ?_; simp (maxSteps:=9^7) only [go_sem]; refine hK _ _ ?_; clear hK K))
    refine Gs.regionM [0, 2] [5, 7] fun K hK => ?_; simp (maxSteps:=9^7) only [go_sem]
    refine ⟨⟨hp, by omega, by omega⟩, hK _ _ ?_⟩
    refine Gs.ret hC Tryz.func67 (by simp [go_sem]) ?_
    simp only [go_sem]
theorem in_calls (l : List ByteArray) (v : ByteArray) (σ : Store) (hl : l.length < 2 ^ 40) :
    AC Tryz.prog 57 [.slc (l.map sD), .v (.string v)] σ (fun e σ' => e = .ret (.v (.bool (l.any fun s => s.toList == v.toList))) ∧ σ' = σ) := by
  have hll : (l.map sD).length = l.length := List.length_map ..
  refine AC.of_body Tryz.func57 rfl Tryz.ntmps57 (by simp) fun C hC => ?_
  repeat' (first | refine Gs.sq ?_ | refine Gs.sk ?_ | refine Gs.ib ?_ | refine Gs.bk ?_ | refine Gs.exit rfl ?_ | (refine Gs.rg [0, 1] fun K hK => ?_; simp (maxSteps:=9^7) only [go_sem]; refine hK _ _ ?_; clear hK K))
  refine Gs.rebase [0, 1, 5] ?_
  simp only [go_sem]
  refine Gs.while (fun (i : Nat) env' σ' => i ≤ l.length ∧ (∀ s ∈ l.take i, (s.toList == v.toList) = false) ∧ env' = [(0, .slc (l.map sD)), (1, .v (.string v)), (5, .v (.int .i64 (i : Int)))] ∧ σ' = σ) (fun i => l.length - i) 0 ⟨by omega, by simp, rfl, rfl⟩ ?_
  rintro i env' σ' ⟨hi, hall, rfl, rfl⟩ ih
  repeat' (first | refine Gs.sq ?_ | refine Gs.sk ?_ | refine Gs.ib ?_ | refine Gs.bk ?_ | refine Gs.exit rfl ?_ | (refine Gs.rg [0, 1, 5] fun K hK => ?_; simp (maxSteps:=9^7) only [go_sem]; refine hK _ _ ?_; clear hK K))
  refine Gs.cond rfl (fun h => ?_) (fun h => ?_)
  · have hlt : i < l.length := by simpa [hll] using h
    have hg := getD_map_lt sD l i hlt
    rw [sD] at hg
    have hi0 : (0 : Int) ≤ (i : Int) := by omega
    have hi1 : (i : Int) < ((l.map sD).length : Int) := by omega
    repeat' (first | refine Gs.sq ?_ | refine Gs.sk ?_ | refine Gs.ib ?_ | refine Gs.bk ?_ | refine Gs.exit rfl ?_ | (refine Gs.rg [0, 1, 5] fun K hK => ?_; simp (maxSteps:=9^7) only [go_sem, hg, hi0, hi1]; refine hK _ _ ?_; clear hK K))
    refine Gs.cond rfl (fun hc => ?_) (fun hc => ?_)
    · repeat' (first | refine Gs.sq ?_ | refine Gs.sk ?_ | refine Gs.ib ?_ | refine Gs.bk ?_ | refine Gs.exit rfl ?_ | (refine Gs.rg [] fun K hK => ?_; simp (maxSteps:=9^7) only [go_sem]; refine hK _ _ ?_; clear hK K))
      refine Gs.ret hC Tryz.func57 (by simp [go_sem]) ?_
      simp only [go_sem]
      rw [List.any_eq_true.2 ⟨_, List.getElem_mem hlt, hc⟩]
    · repeat' (first | refine Gs.sq ?_ | refine Gs.sk ?_ | refine Gs.ib ?_ | refine Gs.bk ?_ | refine Gs.exit rfl ?_ | (refine Gs.rg [0, 1, 5] fun K hK => ?_; simp (maxSteps:=9^7) only [go_sem]; refine hK _ _ ?_; clear hK K))
      refine Gs.rebase [0, 1, 5] ?_
      simp only [go_sem]
      rw [wrap_succ i (by omega)]
      refine ih (i + 1) _ _ ⟨by omega, fun s hs => ?_, rfl, rfl⟩ (by omega)
      rw [List.take_succ_eq_append_getElem hlt] at hs
      rcases List.mem_append.1 hs with hs | hs
      · exact hall s hs
      · simp only [List.mem_singleton] at hs; rw [hs]; exact hc
  · have : i = l.length := by simp [hll] at h; omega
    subst this
    rw [List.take_length] at hall
    repeat' (first | refine Gs.sq ?_ | refine Gs.sk ?_ | refine Gs.ib ?_ | refine Gs.bk ?_ | refine Gs.exit rfl ?_ | (refine Gs.rg [] fun K hK => ?_; simp (maxSteps:=9^7) only [go_sem]; refine hK _ _ ?_; clear hK K))
    refine Gs.ret hC Tryz.func57 (by simp [go_sem]) ?_
    simp only [go_sem]
    rw [List.any_eq_false.2 fun s hs => by rw [hall s hs]; simp]
def sufB (s p : ByteArray) : Bool := decide (p.size ≤ s.size) && ((s.extract (s.size - p.size) s.size).toList == p.toList)
def trimS (s p : ByteArray) : ByteArray := if sufB s p = true then s.extract 0 (s.size - p.size) else s
theorem hasSuffix_calls (s p : ByteArray) (σ : Store) (hs : s.size < 2 ^ 40) (hp : p.size < 2 ^ 40) :
    AC Tryz.prog 120 [.v (.string s), .v (.string p)] σ (fun e σ' => e = .ret (.v (.bool (sufB s p))) ∧ σ' = σ) := by
  refine AC.of_body Tryz.func120 rfl Tryz.ntmps120 (by simp) fun C hC => ?_
  have hw : IntKind.i64.wrap ((s.size : Int) - (p.size : Int)) = (s.size : Int) - (p.size : Int) := wrap_in _ (by omega) (by omega)
  refine Gs.sq (Gs.rg [0, 1] fun K hK => ?_); simp (maxSteps:=9^7) only [go_sem]
  refine hK _ _ ?_; clear hK K
  refine Gs.sq (Gs.rg [0, 1] fun K hK => ?_); simp (maxSteps:=9^7) only [go_sem, hw]
  by_cases hc : p.size ≤ s.size
  · have h1 : (0 : Int) ≤ (s.size : Int) - (p.size : Int) := by omega
    have h2 : (s.size : Int) - (p.size : Int) ≤ (s.size : Int) := by omega
    have h3 : (((s.size : Int) - (p.size : Int))).toNat = s.size - p.size := by omega
    rw [if_pos (by simpa using hc), h3]
    refine ⟨⟨h1, h2, Int.le_refl _⟩, hK _ _ ?_⟩; clear hK K
    refine Gs.ret hC Tryz.func120 (by simp [go_sem]) ?_
    simp only [go_sem]
    unfold sufB
    rw [decide_eq_true hc, Bool.true_and]
  · rw [if_neg (by simpa using hc)]
    refine hK _ _ ?_; clear hK K
    refine Gs.ret hC Tryz.func120 (by simp [go_sem]) ?_
    simp only [go_sem]
    unfold sufB
    rw [decide_eq_false hc, Bool.false_and]
theorem trimSuffix_calls (s p : ByteArray) (σ : Store) (hs : s.size < 2 ^ 40) (hp : p.size < 2 ^ 40) :
    AC Tryz.prog 90 [.v (.string s), .v (.string p)] σ (fun e σ' => e = .ret (.v (.string (trimS s p))) ∧ σ' = σ) := by
  refine AC.of_body Tryz.func90 rfl Tryz.ntmps90 (by simp) fun C hC => ?_
  have hw : IntKind.i64.wrap ((s.size : Int) - (p.size : Int)) = (s.size : Int) - (p.size : Int) := wrap_in _ (by omega) (by omega)
  refine Gs.sq (Gs.rg [0, 1] fun K hK => ?_); simp (maxSteps:=9^7) only [go_sem]
  refine hK _ _ ?_; clear hK K
  refine Gs.sq (Gs.sq ?_)
  refine Gs.rg [0, 1] fun K hK => ?_; simp (maxSteps:=9^7) only [go_sem]
  refine ⟨_, Tryz.call120, (hasSuffix_calls s p σ hs hp).mono ?_⟩
  rintro e σ1 ⟨rfl, rfl⟩
  simp only [go_sem]
  refine hK _ _ (Gs.cond rfl (fun hc => ?_) (fun hc => ?_)); all_goals clear hK K
  · have hle : p.size ≤ s.size := by
      have : sufB s p = true := hc
      unfold sufB at this
      simp at this
      exact this.1
    have h1 : (0 : Int) ≤ (s.size : Int) - (p.size : Int) := by omega
    have h2 : (s.size : Int) - (p.size : Int) ≤ (s.size : Int) := by omega
    have h3 : (((s.size : Int) - (p.size : Int))).toNat = s.size - p.size := by omega
    refine Gs.sq (Gs.rg [0, 1] fun K hK => ?_); simp (maxSteps:=9^7) only [go_sem, hw, h1, h2, h3]
    refine hK _ _ ?_; clear hK K
    refine Gs.ret hC Tryz.func90 (by simp [go_sem]) ?_
    simp only [go_sem]
    unfold trimS
    rw [if_pos hc]
  · refine Gs.sk ?_
    refine Gs.sq (Gs.rg [0] fun K hK => ?_); simp (maxSteps:=9^7) only [go_sem]
    refine hK _ _ ?_; clear hK K
    refine Gs.ret hC Tryz.func90 (by simp [go_sem]) ?_
    simp only [go_sem]
    unfold trimS
    rw [if_neg (by rw [show sufB s p = false from hc]; simp)]
theorem trim_calls (s p : ByteArray) (σ : Store) (hs : s.size < 2 ^ 40) (hp : p.size < 2 ^ 40) :
    AC Tryz.prog 51 [.v (.string s), .v (.string p)] σ (fun e σ' => e = .ret (.v (.string (trimS s p))) ∧ σ' = σ) := by
  refine AC.of_body Tryz.func51 rfl Tryz.ntmps51 (by simp) fun C hC => ?_
  refine Gs.sq (Gs.rg [0, 1] fun K hK => ?_); simp (maxSteps:=9^7) only [go_sem]
  refine hK _ _ ?_; clear hK K
  refine Gs.sq (Gs.rg [0, 1] fun K hK => ?_); simp (maxSteps:=9^7) only [go_sem]
  refine ⟨_, Tryz.call90, (trimSuffix_calls s p σ hs hp).mono ?_⟩
  rintro e σ1 ⟨rfl, rfl⟩
  simp only [go_sem]
  refine hK _ _ ?_; clear hK K
  refine Gs.ret hC Tryz.func51 (by simp [go_sem]) ?_
  simp only [go_sem]
def nmNinja : ByteArray := { data := #[98, 117, 105, 108, 100, 46, 110, 105, 110, 106, 97] }
def nmLog : ByteArray := { data := #[46, 98, 117, 105, 108, 100, 95, 108, 111, 103] }
def nmDeps : ByteArray := { data := #[46, 100, 101, 112, 115, 95, 108, 111, 103] }
def nmNew : ByteArray := { data := #[46, 110, 101, 119] }
def ownB (s : ByteArray) : Bool := (s.toList == nmNinja.toList) || [nmLog, nmDeps].any fun x => (trimS s nmNew).toList == x.toList
theorem own_calls (s : ByteArray) (σ : Store) (hs : s.size < 2 ^ 40) :
    AC Tryz.prog 18 [.v (.string s)] σ (fun e σ' => e = .ret (.v (.bool (ownB s))) ∧ σ' = σ) := by
  refine AC.of_body Tryz.func18 rfl Tryz.ntmps18 (by simp) fun C hC => ?_
  refine Gs.sq (Gs.rg [0] fun K hK => ?_); simp (maxSteps:=9^7) only [go_sem]
  refine hK _ _ ?_; clear hK K
  refine Gs.sq ?_
  refine Gs.regionM [0] [6] fun K hK => ?_; simp (maxSteps:=9^7) only [go_sem]
  cases hb : (s.toList == ByteArray.toList { data := #[98, 117, 105, 108, 100, 46, 110, 105, 110, 106, 97] }) with
  | true =>
    simp only [go_sem]
    refine hK _ _ ?_; clear hK K
    refine Gs.ret hC Tryz.func18 (by simp [go_sem]) ?_
    simp only [go_sem]
    unfold ownB nmNinja
    rw [hb, Bool.true_or]
  | false =>
    simp only [go_sem]
    refine ⟨by decide, _, Tryz.call51, (trim_calls s nmNew σ hs (by decide)).mono ?_⟩
    rintro e σ1 ⟨rfl, rfl⟩
    simp only [go_sem]
    refine ⟨_, Tryz.call50, (contains_str [nmLog, nmDeps] (trimS s nmNew) σ1 (by decide)).mono ?_⟩
    rintro e σ2 ⟨rfl, rfl⟩
    simp only [go_sem]
    refine hK _ _ ?_; clear hK K
    refine Gs.ret hC Tryz.func18 (by simp [go_sem]) ?_
    simp only [go_sem]
    unfold ownB
    rw [show (s.toList == nmNinja.toList) = false from hb, Bool.false_or]
def nmLogNew : ByteArray := { data := #[46, 98, 117, 105, 108, 100, 95, 108, 111, 103, 46, 110, 101, 119] }
def nmDepsNew : ByteArray := { data := #[46, 100, 101, 112, 115, 95, 108, 111, 103, 46, 110, 101, 119] }
def ownR (s : ByteArray) : Bool := (s.toList == nmNinja.toList) || ((s.toList == nmLog.toList) || ((s.toList == nmDeps.toList) || ((s.toList == nmLogNew.toList) || (s.toList == nmDepsNew.toList))))
theorem refOwn_calls (s : ByteArray) (σ : Store) :
    AC Tryz.prog 19 [.v (.string s)] σ (fun e σ' => e = .ret (.v (.bool (ownR s))) ∧ σ' = σ) := by
  refine AC.of_body Tryz.func19 rfl Tryz.ntmps19 (by simp) fun C hC => ?_
  unfold ownR at hC
  have h0 : (s.toList == ByteArray.toList { data := #[98, 117, 105, 108, 100, 46, 110, 105, 110, 106, 97] }) = (s.toList == nmNinja.toList) := rfl
  have h1 : (s.toList == ByteArray.toList { data := #[46, 98, 117, 105, 108, 100, 95, 108, 111, 103] }) = (s.toList == nmLog.toList) := rfl
  have h2 : (s.toList == ByteArray.toList { data := #[46, 100, 101, 112, 115, 95, 108, 111, 103] }) = (s.toList == nmDeps.toList) := rfl
  have h3 : (s.toList == ByteArray.toList { data := #[46, 98, 117, 105, 108, 100, 95, 108, 111, 103, 46, 110, 101, 119] }) = (s.toList == nmLogNew.toList) := rfl
  have h4 : (s.toList == ByteArray.toList { data := #[46, 100, 101, 112, 115, 95, 108, 111, 103, 46, 110, 101, 119] }) = (s.toList == nmDepsNew.toList) := rfl
  generalize (s.toList == nmNinja.toList) = b0 at hC h0
  generalize (s.toList == nmLog.toList) = b1 at hC h1
  generalize (s.toList == nmDeps.toList) = b2 at hC h2
  generalize (s.toList == nmLogNew.toList) = b3 at hC h3
  generalize (s.toList == nmDepsNew.toList) = b4 at hC h4
  refine Gs.sq (Gs.rg [0] fun K hK => ?_); simp (maxSteps:=9^7) only [go_sem]
  refine hK _ _ ?_; clear hK K
  refine Gs.sq ?_
  cases b0 <;> cases b1 <;> cases b2 <;> cases b3
  all_goals
    refine Gs.rg [0] fun K hK => ?_; simp (maxSteps:=9^7) only [go_sem, h0, h1, h2, h3, h4]
    refine hK _ _ ?_; clear hK K
    refine Gs.ret hC Tryz.func19 (by simp [go_sem]) ?_
    simp only [go_sem] <;> first | trivial | simp
theorem ext_list (s : ByteArray) (a b : Nat) : (s.extract a b).data.toList = (s.data.toList.take b).drop a := by
  rw [ByteArray.data_extract]
  simp [List.drop_take, List.extract_eq_take_drop]
theorem tl_data (s : ByteArray) : s.toList = s.data.toList := by
  have key : ∀ (n i : Nat) (r : List UInt8), s.size - i = n → ByteArray.toList.loop s i r = r.reverse ++ s.data.toList.drop i := by
    intro n
    induction n with
    | zero =>
      intro i r h
      unfold ByteArray.toList.loop
      rw [if_neg (by omega), List.drop_of_length_le (by simp; omega)]
      simp
    | succ n ih =>
      intro i r h
      unfold ByteArray.toList.loop
      have hi : i < s.size := by omega
      rw [if_pos hi, ih (i + 1) _ (by omega)]
      have hlt : i < s.data.toList.length := by simpa using hi
      rw [List.drop_eq_getElem_cons hlt]
      simp [ByteArray.get!, Array.getElem!_eq_getD, Array.getD, hi]
  have := key s.size 0 [] (by omega)
  simpa [ByteArray.toList] using this
theorem trim_eq (s p x : ByteArray) (hx : ∀ pre, x.data.toList ≠ pre ++ p.data.toList) : ((trimS s p).toList == x.toList) = ((s.toList == x.toList) || (s.toList == x.toList ++ p.toList)) := by
  rw [Bool.eq_iff_iff]
  simp only [tl_data, Bool.or_eq_true, beq_iff_eq]
  unfold trimS
  have hl : s.data.toList.length = s.size := by simp
  have hp : p.data.toList.length = p.size := by simp
  cases hb : sufB s p with
  | true =>
    rw [if_pos rfl, ext_list]
    unfold sufB at hb
    rw [Bool.and_eq_true, decide_eq_true_iff, beq_iff_eq, tl_data, tl_data, ext_list] at hb
    obtain ⟨h1, h2⟩ := hb
    rw [List.take_of_length_le (by omega)] at h2
    have hs := List.take_append_drop (s.size - p.size) s.data.toList
    rw [h2] at hs
    rw [List.drop_zero]
    constructor
    · intro h; right; rw [← h, hs]
    · rintro (h | h)
      · exact absurd (h.symm.trans hs.symm) (hx _)
      · rw [h] at hs ⊢
        exact List.append_cancel_right hs
  | false =>
    rw [if_neg (by simp)]
    constructor
    · exact .inl
    · rintro (h | h)
      · exact h
      · exfalso
        have h1 : p.size ≤ s.size := by rw [← hl, ← hp, h]; simp
        have hx2 : s.size - p.size = x.data.toList.length := by rw [← hl, ← hp, h]; simp
        unfold sufB at hb
        rw [decide_eq_true h1, Bool.true_and, tl_data, tl_data, ext_list, List.take_of_length_le (by omega), hx2, h, List.drop_left] at hb
        simp at hb
theorem own_same (s : ByteArray) : ownB s = ownR s := by
  unfold ownB ownR
  have e1 := trim_eq s nmNew nmLog (fun pre h => by
    have := congrArg (fun l : List UInt8 => l.reverse.head?) h
    simp [nmLog, nmNew] at this)
  have e2 := trim_eq s nmNew nmDeps (fun pre h => by
    have := congrArg (fun l : List UInt8 => l.reverse.head?) h
    simp [nmDeps, nmNew] at this)
  have c1 : nmLog.toList ++ nmNew.toList = nmLogNew.toList := by rw [tl_data, tl_data, tl_data]; rfl
  have c2 : nmDeps.toList ++ nmNew.toList = nmDepsNew.toList := by rw [tl_data, tl_data, tl_data]; rfl
  rw [List.any_cons, List.any_cons, List.any_nil, e1, e2, c1, c2]
  cases s.toList == nmNinja.toList <;> cases s.toList == nmLog.toList <;> cases s.toList == nmDeps.toList <;> cases s.toList == nmLogNew.toList <;> cases s.toList == nmDepsNew.toList <;> rfl
def namesB (a b : List ByteArray) : Bool := decide (a.length = b.length) && (List.range a.length).all fun i => (a.getD i ByteArray.empty).toList == (b.getD i ByteArray.empty).toList
structure XFile where
  name : ByteArray
  b : List UInt8
def XFile.d (f : XFile) : D := .agg [.v (.string f.name), .slc (f.b.map bD)]
theorem fits1_calls (n m : ByteArray) (y : D) (σ : Store) (hy : y.cells = [y] ∧ y.plain = true ∧ y.cell = true) :
    AC Tryz.prog 69 [.v (.string n), .agg [.v (.string m), y]] σ (fun e σ' => e = .ret (.v (.bool (m.toList == n.toList))) ∧ σ' = σ) := by
  refine AC.still ?_ σ
  refine AC.forget (R := fun e _ => e = .ret (.v (.bool (m.toList == n.toList)))) ?_ fun e σ' h => ⟨[], SLe.nil _, h, rfl⟩
  obtain ⟨h1, h2, h3⟩ := hy
  refine AC.of_body Tryz.func69 rfl Tryz.ntmps69 (by simp) fun C hC => ?_
  refine Gs.sq (Gs.rg [0, 1] fun K hK => ?_); simp (maxSteps:=9^7) only [go_sem, h1, h2, h3]
  intro b3
  refine hK _ _ ?_; clear hK K
  refine Gs.sq (Gs.rg [0, 3] fun K hK => ?_); simp (maxSteps:=9^7) only [go_sem, h1, h2, h3]
  refine hK _ _ ?_; clear hK K
  refine Gs.ret hC Tryz.func69 (by simp [go_sem]) ?_
  simp only [go_sem]
def fitB (outs : List ByteArray) (fs : List XFile) : Bool := namesB outs (fs.map XFile.name)
theorem equalFunc_calls (outs : List ByteArray) (fs : List XFile) (σ : Store) (ha : outs.length < 2 ^ 31) (hb : fs.length < 2 ^ 31) :
    AC Tryz.prog 68 [.slc (outs.map sD), .slc (fs.map XFile.d), .clo (.func 69) [] []] σ (fun e σ' => e = .ret (.v (.bool (fitB outs fs))) ∧ σ' = σ) := by
  refine AC.still ?_ σ
  refine AC.forget (R := fun e _ => e = .ret (.v (.bool (fitB outs fs)))) ?_ fun e σ' h => ⟨[], SLe.nil _, h, rfl⟩
  have hal : (outs.map sD).length = outs.length := List.length_map ..
  have hbl : (fs.map XFile.d).length = fs.length := List.length_map ..
  refine AC.of_body Tryz.func68 rfl Tryz.ntmps68 (by simp) fun C hC => ?_
  repeat' (first | refine Gs.sq ?_ | refine Gs.sk ?_ | refine Gs.ib ?_ | refine Gs.bk ?_ | refine Gs.exit rfl ?_ | (refine Gs.rg [0, 1, 2] fun K hK => ?_; simp (maxSteps:=9^7) only [go_sem]; refine hK _ _ ?_; clear hK K))
  refine Gs.cond rfl (fun h => ?_) (fun h => ?_)
  · have hne : ¬ outs.length = (fs.map XFile.name).length := fun e => by rw [hal, hbl, e, List.length_map] at h; simp at h
    repeat' (first | refine Gs.sq ?_ | refine Gs.sk ?_ | refine Gs.ib ?_ | refine Gs.bk ?_ | refine Gs.exit rfl ?_ | (refine Gs.rg [] fun K hK => ?_; simp (maxSteps:=9^7) only [go_sem]; refine hK _ _ ?_; clear hK K))
    refine Gs.ret hC Tryz.func68 (by simp [go_sem]) ?_
    simp only [go_sem]
    unfold fitB namesB
    rw [decide_eq_false hne, Bool.false_and]
  have hne : outs.length = fs.length := by rw [hal, hbl] at h; simp at h; omega
  have hne2 : outs.length = (fs.map XFile.name).length := by rw [List.length_map]; exact hne
  repeat' (first | refine Gs.sq ?_ | refine Gs.sk ?_ | refine Gs.ib ?_ | refine Gs.bk ?_ | refine Gs.exit rfl ?_ | (refine Gs.rg [0, 1, 2] fun K hK => ?_; simp (maxSteps:=9^7) only [go_sem]; refine hK _ _ ?_; clear hK K))
  refine Gs.rebase [1, 2, 15, 16, 17] ?_
  simp only [go_sem]
  refine Gs.while (fun (i : Nat) env' σ' => i ≤ outs.length ∧ (∀ k, k < i → ((outs.getD k ByteArray.empty).toList == ((fs.map XFile.name).getD k ByteArray.empty).toList) = true) ∧ env' = [(1, .slc (fs.map XFile.d)), (2, .clo (.func 69) [] []), (15, .slc (outs.map sD)), (16, .v (.int .i64 (outs.length : Int))), (17, .v (.int .i64 (i : Int)))] ∧ σ' = []) (fun i => outs.length - i) 0 ⟨by omega, by simp, by rw [hal]; rfl, rfl⟩ ?_
  rintro i env' σ' ⟨hi, hall, rfl, rfl⟩ ih
  repeat' (first | refine Gs.sq ?_ | refine Gs.sk ?_ | refine Gs.ib ?_ | refine Gs.bk ?_ | refine Gs.exit rfl ?_ | (refine Gs.rg [1, 2, 15, 16, 17] fun K hK => ?_; simp (maxSteps:=9^7) only [go_sem]; refine hK _ _ ?_; clear hK K))
  refine Gs.cond rfl (fun h => ?_) (fun h => ?_)
  rotate_left
  · have : i = outs.length := by simp at h; omega
    subst this
    repeat' (first | refine Gs.sq ?_ | refine Gs.sk ?_ | refine Gs.ib ?_ | refine Gs.bk ?_ | refine Gs.exit rfl ?_ | (refine Gs.rg [] fun K hK => ?_; simp (maxSteps:=9^7) only [go_sem]; refine hK _ _ ?_; clear hK K))
    refine Gs.ret hC Tryz.func68 (by simp [go_sem]) ?_
    simp only [go_sem]
    unfold fitB namesB
    rw [decide_eq_true hne2, Bool.true_and, List.all_eq_true.2 fun k hk => hall k (by simpa using hk)]
  have hlt : i < outs.length := by simpa using h
  have hlt2 : i < fs.length := by omega
  have hg := getD_map_lt sD outs i hlt
  have hg2 := getD_map_lt XFile.d fs i hlt2
  rw [sD] at hg
  rw [XFile.d] at hg2
  have hi0 : (0 : Int) ≤ (i : Int) := by omega
  have hi1 : (i : Int) < ((outs.map sD).length : Int) := by omega
  have hi2 : (i : Int) < ((fs.map XFile.d).length : Int) := by omega
  have ea : outs.getD i ByteArray.empty = outs[i] := by simp [List.getD_eq_getElem?_getD, hlt]
  have eb : (fs.map XFile.name).getD i ByteArray.empty = fs[i].name := by simp [List.getD_eq_getElem?_getD, hlt2]
  refine Gs.sk ?_
  refine Gs.sq ?_
  refine Gs.bk ?_
  refine Gs.sq (Gs.rg [1, 2, 15, 16, 17] fun K hK => ?_); simp (maxSteps:=9^7) only [go_sem, hg, hi0, hi1]
  refine hK _ _ ?_; clear hK K
  refine Gs.sq (Gs.rg [1, 2, 7, 8, 15, 16, 17] fun K hK => ?_); simp (maxSteps:=9^7) only [go_sem, hg2, hi0, hi2]
  intro b9
  refine hK _ _ ?_; clear hK K
  refine Gs.sq (Gs.rg [1, 2, 8, 9, 15, 16, 17] fun K hK => ?_); simp (maxSteps:=9^7) only [go_sem]
  have hcm : (fs[i].name.toList == outs[i].toList) = (outs[i].toList == fs[i].name.toList) := by
    rw [Bool.eq_iff_iff, beq_iff_eq, beq_iff_eq]; exact eq_comm
  refine ⟨_, Tryz.call69, (fits1_calls outs[i] fs[i].name (.slc (fs[i].b.map bD)) _ ⟨rfl, rfl, rfl⟩).mono ?_⟩
  rintro e σ1 ⟨rfl, rfl⟩
  rw [hcm]
  simp only [go_sem]
  refine hK _ _ (Gs.cond rfl (fun hc => ?_) (fun hc => ?_)); all_goals clear hK K
  · repeat' (first | refine Gs.sq ?_ | refine Gs.sk ?_ | refine Gs.ib ?_ | refine Gs.bk ?_ | refine Gs.exit rfl ?_ | (refine Gs.rg [] fun K hK => ?_; simp (maxSteps:=9^7) only [go_sem]; refine hK _ _ ?_; clear hK K))
    refine Gs.ret hC Tryz.func68 (by simp [go_sem]) ?_
    simp only [go_sem]
    unfold fitB namesB
    rw [List.all_eq_false.2 ⟨i, by simpa using hlt, by rw [ea, eb]; simpa using hc⟩, Bool.and_false]
  · repeat' (first | refine Gs.sq ?_ | refine Gs.sk ?_ | refine Gs.ib ?_ | refine Gs.bk ?_ | refine Gs.exit rfl ?_ | (refine Gs.rg [1, 2, 15, 16, 17] fun K hK => ?_; simp (maxSteps:=9^7) only [go_sem]; refine hK _ _ ?_; clear hK K))
    refine Gs.rebase [1, 2, 15, 16, 17] ?_
    simp only [go_sem]
    rw [wrap_succ i (by omega)]
    refine Gs.le (ELe.refl _) (SLe.nil _) (ih (i + 1) _ [] ⟨by omega, fun k hk => ?_, rfl, rfl⟩ (by omega))
    by_cases hki : k = i
    · subst hki; rw [ea, eb]; simpa using hc
    · exact hall k (by omega)
structure XEdge where
  outs : List ByteArray
  ins : List ByteArray
  impl : List ByteArray
  order : List ByteArray
  cmd : ByteArray
  dep : ByteArray
def XEdge.d (e : XEdge) : D := .agg [.slc (e.outs.map sD), .slc (e.ins.map sD), .slc (e.impl.map sD), .slc (e.order.map sD), .v (.string e.cmd), .v (.string e.dep)]
structure XDish where
  outs : List XFile
  once : Bool
  dep : ByteArray
  deps : ByteArray
def XDish.d (x : XDish) : D := .agg [.slc (x.outs.map XFile.d), .v (.bool x.once), .v (.string x.dep), .v (.string x.deps)]
theorem fits_calls (e : XEdge) (x : XDish) (σ : Store) (ha : e.outs.length < 2 ^ 31) (hb : x.outs.length < 2 ^ 31) :
    AC Tryz.prog 28 [e.d, x.d] σ (fun r σ' => r = .ret (.v (.bool ((x.dep.toList == e.dep.toList) && fitB e.outs x.outs))) ∧ σ' = σ) := by
  refine AC.still ?_ σ
  refine AC.forget (R := fun r _ => r = .ret (.v (.bool ((x.dep.toList == e.dep.toList) && fitB e.outs x.outs)))) ?_ fun r σ' h => ⟨[], SLe.nil _, h, rfl⟩
  unfold XEdge.d XDish.d
  refine AC.of_body Tryz.func28 rfl Tryz.ntmps28 (by simp) fun C hC => ?_
  refine Gs.sq (Gs.rg [0, 1] fun K hK => ?_); simp (maxSteps:=9^7) only [go_sem]
  intro b2 b3 hb3
  have hne : b2 ≠ b3 := fun e => by subst e; rw [sget_self] at hb3; cases hb3
  refine hK _ _ ?_; clear hK K
  refine Gs.sq (Gs.rg [2, 3] fun K hK => ?_); simp (maxSteps:=9^7) only [go_sem, hne, hne.symm]
  cases hd : (x.dep.toList == e.dep.toList) with
  | false =>
    simp only [go_sem]
    refine hK _ _ ?_; clear hK K
    refine Gs.ret hC Tryz.func28 (by simp [go_sem]) ?_
    simp only [go_sem]
    rw [hd, Bool.false_and]
  | true =>
    simp only [go_sem]
    refine ⟨_, Tryz.call68, (equalFunc_calls e.outs x.outs _ ha hb).mono ?_⟩
    rintro r σ1 ⟨rfl, rfl⟩
    simp only [go_sem]
    refine hK _ _ ?_; clear hK K
    refine Gs.ret hC Tryz.func28 (by simp [go_sem]) ?_
    simp only [go_sem]
    rw [hd, Bool.true_and]
def findF (l : List XFile) (n : ByteArray) : Option (List UInt8) := (l.find? fun f => f.name.toList == n.toList).map XFile.b
def findD (o : Option (List UInt8)) : D := match o with
  | some b => .tup [.slc (b.map bD), .v (.bool true)]
  | none => .tup [.slc [], .v (.bool false)]
theorem findF_at {l : List XFile} {n : ByteArray} : ∀ {i : Nat} (hi : i < l.length), (∀ f ∈ l.take i, (f.name.toList == n.toList) = false) → (l[i].name.toList == n.toList) = true → findF l n = some l[i].b := by
  induction l with
  | nil => intro i hi; simp at hi
  | cons f l ih =>
    intro i hi h0 h
    cases i with
    | zero =>
      have h : (f.name.toList == n.toList) = true := h
      simp [findF, List.find?_cons, h]
    | succ i =>
      have hf := h0 f (by simp)
      have := ih (i := i) (by simpa using hi) (fun y hy => h0 y (by simp [hy])) (by simpa using h)
      unfold findF at this ⊢
      rw [List.find?_cons, hf]
      simpa using this
theorem findF_none {l : List XFile} {n : ByteArray} (h : ∀ f ∈ l, (f.name.toList == n.toList) = false) : findF l n = none := by
  unfold findF
  rw [List.find?_eq_none.2 fun f hf => by rw [h f hf]; simp]; rfl
structure TestsF (caps : List D) (g : FuncId) (p : XFile → Bool) (l : List XFile) (σ : Store) : Prop where
  call : ∀ args w, (callFunc g args).run Tryz.prog w = .ok (.enter g args) w
  ans : ∀ x ∈ l, AC Tryz.prog g (x.d :: caps) σ (fun e σ' => e = .ret (.v (.bool (p x))) ∧ σ' = σ)
theorem indexFunc_file (l : List XFile) (g : FuncId) (caps : List D) (p : XFile → Bool) (σ : Store) (hl : l.length < 2 ^ 40) (ht : TestsF caps g p l σ) :
    AC Tryz.prog 65 [.slc (l.map XFile.d), .clo (.func g) [] caps] σ (fun e σ' => e = .ret (.v (.int .i64 (idxI p l))) ∧ σ' = σ) := by
  have hll : (l.map XFile.d).length = l.length := List.length_map ..
  refine AC.of_body Tryz.func65 rfl Tryz.ntmps65 (by simp) fun C hC => ?_
  repeat' (first | refine Gs.sq ?_ | refine Gs.sk ?_ | refine Gs.ib ?_ | refine Gs.bk ?_ | refine Gs.exit rfl ?_ | (refine Gs.rg [0, 1] fun K hK => ?_; simp (maxSteps:=9^7) only [go_sem]; refine hK _ _ ?_; clear hK K))
  refine Gs.rebase [0, 1, 6, 7, 8] ?_
  simp only [go_sem]
  refine Gs.while (fun (i : Nat) env' σ' => i ≤ l.length ∧ (∀ s ∈ l.take i, p s = false) ∧ env' = [(0, .slc (l.map XFile.d)), (1, .clo (.func g) [] caps), (6, .slc (l.map XFile.d)), (7, .v (.int .i64 (l.length : Int))), (8, .v (.int .i64 (i : Int)))] ∧ σ' = σ) (fun i => l.length - i) 0 ⟨by omega, by simp, by rw [hll]; rfl, rfl⟩ ?_
  rintro i env' σ' ⟨hi, hall, rfl, rfl⟩ ih
  repeat' (first | refine Gs.sq ?_ | refine Gs.sk ?_ | refine Gs.ib ?_ | refine Gs.bk ?_ | refine Gs.exit rfl ?_ | (refine Gs.rg [0, 1, 6, 7, 8] fun K hK => ?_; simp (maxSteps:=9^7) only [go_sem]; refine hK _ _ ?_; clear hK K))
  refine Gs.cond rfl (fun h => ?_) (fun h => ?_)
  · have hlt : i < l.length := by simpa using h
    have hg := getD_map_lt XFile.d l i hlt
    rw [XFile.d] at hg
    have hi0 : (0 : Int) ≤ (i : Int) := by omega
    have hi1 : (i : Int) < ((l.map XFile.d).length : Int) := by omega
    refine Gs.sk ?_
    refine Gs.sq ?_
    refine Gs.bk ?_
    refine Gs.sq (Gs.rg [0, 1, 6, 7, 8] fun K hK => ?_); simp (maxSteps:=9^7) only [go_sem]
    refine hK _ _ ?_; clear hK K
    refine Gs.sq (Gs.rg [0, 1, 5, 6, 7, 8] fun K hK => ?_); simp (maxSteps:=9^7) only [go_sem, hg, hi0, hi1]
    refine ⟨g, ht.call, ?_⟩
    refine (ht.ans l[i] (List.getElem_mem hlt)).mono ?_
    rintro e σ1 ⟨rfl, rfl⟩
    simp only [go_sem]
    refine hK _ _ (Gs.cond rfl (fun hc => ?_) (fun hc => ?_)); all_goals clear hK K
    · repeat' (first | refine Gs.sq ?_ | refine Gs.sk ?_ | refine Gs.ib ?_ | refine Gs.bk ?_ | refine Gs.exit rfl ?_ | (refine Gs.rg [5] fun K hK => ?_; simp (maxSteps:=9^7) only [go_sem]; refine hK _ _ ?_; clear hK K))
      refine Gs.ret hC Tryz.func65 (by simp [go_sem]) ?_
      simp only [go_sem]
      rw [idxI_at hlt hall hc]
    · repeat' (first | refine Gs.sq ?_ | refine Gs.sk ?_ | refine Gs.ib ?_ | refine Gs.bk ?_ | refine Gs.exit rfl ?_ | (refine Gs.rg [0, 1, 6, 7, 8] fun K hK => ?_; simp (maxSteps:=9^7) only [go_sem]; refine hK _ _ ?_; clear hK K))
      refine Gs.rebase [0, 1, 6, 7, 8] ?_
      simp only [go_sem]
      rw [wrap_succ i (by omega)]
      refine ih (i + 1) _ _ ⟨by omega, fun s hs => ?_, rfl, rfl⟩ (by omega)
      rw [List.take_succ_eq_append_getElem hlt] at hs
      rcases List.mem_append.1 hs with hs | hs
      · exact hall s hs
      · simp only [List.mem_singleton] at hs; rw [hs]; exact hc
  · have : i = l.length := by simp at h; omega
    subst this
    rw [List.take_length] at hall
    repeat' (first | refine Gs.sq ?_ | refine Gs.sk ?_ | refine Gs.ib ?_ | refine Gs.bk ?_ | refine Gs.exit rfl ?_ | (refine Gs.rg [0] fun K hK => ?_; simp (maxSteps:=9^7) only [go_sem]; refine hK _ _ ?_; clear hK K))
    refine Gs.ret hC Tryz.func65 (by simp [go_sem]) ?_
    simp only [go_sem]
    rw [idxI_none hall]
theorem find1_calls (f : XFile) (n : ByteArray) (b : Nat) (σ : Store) (hb : sget b σ = some (.arr 1 [.v (.string n)])) :
    AC Tryz.prog 66 [f.d, .ptr b 1 0 0] σ (fun e σ' => e = .ret (.v (.bool (f.name.toList == n.toList))) ∧ σ' = σ) := by
  refine AC.forget (R := fun e σ' => e = .ret (.v (.bool (f.name.toList == n.toList))) ∧ SLe σ σ') ?_ fun e σ' h => ⟨σ, h.2, h.1, rfl⟩
  unfold XFile.d
  refine AC.of_body Tryz.func66 rfl Tryz.ntmps66 (by simp) fun C hC => ?_
  refine Gs.sq (Gs.rg [0, 1] fun K hK => ?_); simp (maxSteps:=9^7) only [go_sem]
  intro b2 hb2
  have hne : b ≠ b2 := fun e => by subst e; rw [hb2] at hb; cases hb
  refine hK _ _ ?_; clear hK K
  refine Gs.sq (Gs.rg [1, 2] fun K hK => ?_); simp (maxSteps:=9^7) only [go_sem, hne, hb]
  refine hK _ _ ?_; clear hK K
  refine Gs.ret hC Tryz.func66 (by simp [go_sem]) ?_
  simp only [go_sem]
  exact sle_cons (SLe.refl _) hb2
theorem findF_idx (l : List XFile) (n : ByteArray) : (idxI (fun f : XFile => f.name.toList == n.toList) l = -1 ∧ findF l n = none) ∨ ∃ (i : Nat) (hi : i < l.length), idxI (fun f : XFile => f.name.toList == n.toList) l = i ∧ findF l n = some l[i].b := by
  cases hf : l.findIdx? (fun f : XFile => f.name.toList == n.toList) with
  | none =>
    have h := List.findIdx?_eq_none_iff.1 hf
    exact .inl ⟨idxI_none h, findF_none h⟩
  | some i =>
    obtain ⟨h1, h2, h3⟩ := List.findIdx?_eq_some_iff_getElem.1 hf
    have h4 : ∀ f ∈ l.take i, (f.name.toList == n.toList) = false := fun f hfm => by
      obtain ⟨j, hj, rfl⟩ := List.getElem_of_mem hfm
      have hj2 : j < i := by simp at hj; omega
      rw [List.getElem_take]
      have := h3 j hj2
      simpa using this
    exact .inr ⟨i, h1, idxI_at h1 h4 h2, findF_at h1 h4 h2⟩
theorem find_calls (l : List XFile) (n : ByteArray) (σ : Store) (hl : l.length < 2 ^ 31) (hb : ∀ f ∈ l, f.b.length < 2 ^ 40) :
    AC Tryz.prog 27 [.slc (l.map XFile.d), .v (.string n)] σ (fun e σ' => e = .ret (findD (findF l n)) ∧ σ' = σ) := by
  refine AC.still ?_ σ
  refine AC.forget (R := fun e _ => e = .ret (findD (findF l n))) ?_ fun e σ' h => ⟨[], SLe.nil _, h, rfl⟩
  refine AC.ret_le (R := fun e _ => e = .ret (findD (findF l n)) ∨ (findF l n = none ∧ e = .ret (.tup [.v (.slice none 0 0), .v (.bool false)]))) ?_ fun e σ' h => ?_
  rotate_left
  · rcases h with h | ⟨h0, rfl⟩
    · exact .inl h
    · refine .inr ⟨_, findD (findF l n), rfl, fun w S v h => ?_, rfl⟩
      rw [h0]
      cases h with
      | tup h =>
        obtain ⟨a0, r0, rfl, q0, h⟩ := h.cons_inv
        exact .tup (.cons (DLe.nil_slc _ _ _ q0) h)
  have hll : (l.map XFile.d).length = l.length := List.length_map ..
  refine AC.of_body Tryz.func27 rfl Tryz.ntmps27 (by simp) fun C hC => ?_
  refine Gs.sq (Gs.rg [0, 1] fun K hK => ?_); simp (maxSteps:=9^7) only [go_sem]
  intro b3
  refine hK _ _ ?_; clear hK K
  refine Gs.sq (Gs.rg [0, 3] fun K hK => ?_); simp (maxSteps:=9^7) only [go_sem]
  refine ⟨_, Tryz.call65, (indexFunc_file l 66 [.ptr b3 1 0 0] (fun f => f.name.toList == n.toList) _ (by omega) ⟨Tryz.call66, fun x _ => find1_calls x n b3 _ (sget_self ..)⟩).mono ?_⟩
  rintro e σ1 ⟨rfl, rfl⟩
  simp only [go_sem]
  refine hK _ _ ?_; clear hK K
  rcases findF_idx l n with ⟨h1, h2⟩ | ⟨i, hi, h1, h2⟩
  · rw [h1]
    repeat' (first | refine Gs.sq ?_ | refine Gs.sk ?_ | refine Gs.ib ?_ | refine Gs.bk ?_ | refine Gs.exit rfl ?_ | (refine Gs.rg [0, 6] fun K hK => ?_; simp (maxSteps:=9^7) only [go_sem]; refine hK _ _ ?_; clear hK K))
    refine Gs.condT rfl ?_
    refine Gs.sq (Gs.rg [] fun K hK => ?_); simp (maxSteps:=9^7) only [go_sem]
    refine hK _ _ ?_; clear hK K
    refine Gs.ret hC Tryz.func27 (by simp [go_sem]) ?_
    simp only [go_sem]
    exact .inr h2
  · rw [h1]
    have hneg : decide ((i : Int) < 0) = false := by simp
    have hg := getD_map_lt XFile.d l i hi
    rw [XFile.d] at hg
    have hi0 : (0 : Int) ≤ (i : Int) := by omega
    have hi1 : (i : Int) < ((l.map XFile.d).length : Int) := by omega
    repeat' (first | refine Gs.sq ?_ | refine Gs.sk ?_ | refine Gs.ib ?_ | refine Gs.bk ?_ | refine Gs.exit rfl ?_ | (refine Gs.rg [0, 6] fun K hK => ?_; simp (maxSteps:=9^7) only [go_sem, hneg]; refine hK _ _ ?_; clear hK K))
    refine Gs.condF rfl ?_
    refine Gs.sk ?_
    refine Gs.sq (Gs.rg [0, 6] fun K hK => ?_); simp (maxSteps:=9^7) only [go_sem, hg, hi0, hi1]
    refine ⟨_, Tryz.call67, (clone_byte (l[i].b.map bD) _ (plain_bD _) (by rw [List.length_map]; exact hb _ (List.getElem_mem hi))).mono ?_⟩
    rintro e σ2 ⟨rfl, rfl⟩
    simp only [go_sem]
    refine hK _ _ ?_; clear hK K
    refine Gs.ret hC Tryz.func27 (by simp [go_sem]) ?_
    simp only [go_sem]
    rw [h2]
    exact .inl rfl
structure XMan where
  edges : List XEdge
  defs : List ByteArray
def XMan.d (m : XMan) : D := .agg [.slc (m.edges.map XEdge.d), .slc (m.defs.map sD)]
def inB (l : List ByteArray) (f : ByteArray) : Bool := l.any fun s => s.toList == f.toList
def makerI (m : XMan) (f : ByteArray) : Int := idxI (fun e : XEdge => inB e.outs f) m.edges
theorem maker_calls (m : XMan) (f : ByteArray) (σ : Store) (hl : m.edges.length < 2 ^ 31) (ho : ∀ e ∈ m.edges, e.outs.length < 2 ^ 40) :
    AC Tryz.prog 47 [m.d, .v (.string f)] σ (fun e σ' => e = .ret (.v (.int .i64 (makerI m f))) ∧ σ' = σ) := by
  refine AC.still ?_ σ
  refine AC.forget (R := fun e _ => e = .ret (.v (.int .i64 (makerI m f)))) ?_ fun e σ' h => ⟨[], SLe.nil _, h, rfl⟩
  unfold XMan.d
  have hll : (m.edges.map XEdge.d).length = m.edges.length := List.length_map ..
  refine AC.of_body Tryz.func47 rfl Tryz.ntmps47 (by simp) fun C hC => ?_
  refine Gs.sq (Gs.rg [0, 1] fun K hK => ?_); simp (maxSteps:=9^7) only [go_sem]
  intro b2
  refine hK _ _ ?_; clear hK K
  generalize hσ : [(b2, AObj.arr 2 [D.agg [.slc (m.edges.map XEdge.d), .slc (m.defs.map sD)]])] = τ
  have g2 : sget b2 τ = some (.arr 2 [D.agg [.slc (m.edges.map XEdge.d), .slc (m.defs.map sD)]]) := by rw [← hσ, sget_self]
  refine Gs.sq (Gs.sq ?_)
  refine Gs.rg [1, 2] fun K hK => ?_; simp (maxSteps:=9^7) only [go_sem]
  refine hK _ _ ?_; clear hK K
  refine Gs.rebase [1, 2, 5] ?_
  simp only [go_sem]
  refine Gs.bk ?_
  refine Gs.while (fun (i : Nat) env' σ'' => i ≤ m.edges.length ∧ (∀ e ∈ m.edges.take i, inB e.outs f = false) ∧ env' = [(1, .v (.string f)), (2, .ptr b2 2 0 0), (5, .v (.int .i64 (i : Int)))] ∧ σ'' = τ) (fun i => m.edges.length - i) 0 ⟨by omega, by simp, rfl, rfl⟩ ?_
  rintro i env' σ'' ⟨hi, hall, rfl, rfl⟩ ih
  refine Gs.sq (Gs.sq ?_)
  refine Gs.rg [1, 2, 5] fun K hK => ?_; simp (maxSteps:=9^7) only [go_sem, g2]
  refine hK _ _ ?_; clear hK K
  refine Gs.cond rfl (fun h => ?_) (fun h => ?_)
  · have hlt : i < m.edges.length := by simpa [hll] using h
    have hg := getD_map_lt XEdge.d m.edges i hlt
    rw [XEdge.d] at hg
    have hi0 : (0 : Int) ≤ (i : Int) := by omega
    have hi1 : (i : Int) < ((m.edges.map XEdge.d).length : Int) := by omega
    refine Gs.sk ?_
    refine Gs.sq ?_
    refine Gs.bk ?_
    refine Gs.sq (Gs.rg [1, 2, 5] fun K hK => ?_); simp (maxSteps:=9^7) only [go_sem, g2, hg, hi0, hi1]
    refine ⟨_, Tryz.call57, (in_calls m.edges[i].outs f _ (ho _ (List.getElem_mem hlt))).mono ?_⟩
    rintro e σ1 ⟨rfl, rfl⟩
    simp only [go_sem]
    refine hK _ _ (Gs.cond rfl (fun hc => ?_) (fun hc => ?_)); all_goals clear hK K
    · repeat' (first | refine Gs.sq ?_ | refine Gs.sk ?_ | refine Gs.ib ?_ | refine Gs.bk ?_ | refine Gs.exit rfl ?_ | (refine Gs.rg [5] fun K hK => ?_; simp (maxSteps:=9^7) only [go_sem]; refine hK _ _ ?_; clear hK K))
      refine Gs.ret hC Tryz.func47 (by simp [go_sem]) ?_
      simp only [go_sem]
      unfold makerI
      rw [idxI_at hlt hall hc]
    · repeat' (first | refine Gs.sq ?_ | refine Gs.sk ?_ | refine Gs.ib ?_ | refine Gs.bk ?_ | refine Gs.exit rfl ?_ | (refine Gs.rg [1, 2, 5] fun K hK => ?_; simp (maxSteps:=9^7) only [go_sem]; refine hK _ _ ?_; clear hK K))
      refine Gs.rebase [1, 2, 5] ?_
      simp only [go_sem]
      rw [wrap_succ i (by omega)]
      refine ih (i + 1) _ _ ⟨by omega, fun s hs => ?_, rfl, rfl⟩ (by omega)
      rw [List.take_succ_eq_append_getElem hlt] at hs
      rcases List.mem_append.1 hs with hs | hs
      · exact hall s hs
      · simp only [List.mem_singleton] at hs; rw [hs]; exact hc
  · have : i = m.edges.length := by simp [hll] at h; omega
    subst this
    rw [List.take_length] at hall
    repeat' (first | refine Gs.sq ?_ | refine Gs.sk ?_ | refine Gs.ib ?_ | refine Gs.bk ?_ | refine Gs.exit rfl ?_ | (refine Gs.rg [] fun K hK => ?_; simp (maxSteps:=9^7) only [go_sem]; refine hK _ _ ?_; clear hK K))
    refine Gs.ret hC Tryz.func47 (by simp [go_sem]) ?_
    simp only [go_sem]
    unfold makerI
    rw [idxI_none hall]
end Go.Ab.S16
namespace Go.Ab
open Go Go.RowKit
variable {P : Program} {f : FuncId} {args args' : List D} {σ : Store}
def Views (σ : Store) (args args' : List D) : Prop := ∀ (w : World) (S : Nat → Prop) (vs : List Value), SOk w S → RepStore w S σ → RepL w S args vs → ∃ S', SOk w S' ∧ RepL w S' args' vs
theorem Views.refl (σ : Store) (args : List D) : Views σ args args := fun _ S _ h _ hv => ⟨S, h, hv⟩
theorem Views.pub {b sz : Nat} {xs : List D} (hb : sget b σ = some (.arr sz xs)) (h : Views (spub b sz xs σ) (pubs b sz xs args) args') : Views σ args args' := by
  intro w S vs hS hst hv
  obtain ⟨hE, hst', hfr⟩ := pub_world hst hS.lt hb
  exact h w _ vs ⟨hfr.lt, hS.g.ev hE⟩ hst' (repL_pub hE (.inr rfl) (hst b _ hb).2 hv)
theorem Views.le (hl : ∀ w S vs, RepL w S args vs → RepL w S args' vs) : Views σ args args' := fun w S vs hS _ hv => ⟨S, hS, hl w S vs hv⟩
theorem Views.own1 {ob : Option Nat} {sz n : Nat} {xs rest : List D} (hx : oget sz ob σ = some xs) (hn : n ≤ xs.length) (hr : ∀ b s ys, pubs b s ys rest = rest) : Views σ (.own ob sz n :: rest) (.slc (xs.take n) :: rest) := by
  cases ob with
  | none =>
    simp only [oget, Option.some.injEq] at hx
    subst hx
    refine .le fun w S vs h => ?_
    obtain ⟨v, vs1, rfl, hv1, hv⟩ := h.cons_inv
    cases hv1 with
    | own0 => simp only [List.take_nil]; exact .cons .slc0 hv
  | some b =>
    simp only [oget] at hx
    split at hx
    · rename_i s ys hg
      split at hx
      · rename_i hs
        cases hx; subst hs
        refine .pub hg ?_
        have : pubs b s xs (.own (some b) s n :: rest) = .slc (xs.take n) :: rest := by
          simp only [pubs, D.pub, hr]
          rw [if_pos ⟨trivial, trivial, hn⟩]
        rw [this]
        exact .refl _ _
      · cases hx
    · cases hx
mutual
theorem toV_back : ∀ {d : D} {v : Value}, toV d = some v → ∀ {w w' : World} {S S' : Nat → Prop} {x : Value}, Rep w S d x → Rep w' S' d x
  | .v y, v, h, w, w', S, S', x, hr => by cases hr with | v ho => exact .v ho
  | .agg cs, v, h, w, w', S, S', x, hr => by
    cases hr with
    | agg hr =>
      simp only [toV, Option.map_eq_some_iff] at h
      obtain ⟨l, hl, _⟩ := h
      exact .agg (toVs_back hl hr)
  | .tup cs, v, h, w, w', S, S', x, hr => by
    cases hr with
    | tup hr =>
      simp only [toV, Option.map_eq_some_iff] at h
      obtain ⟨l, hl, _⟩ := h
      exact .tup (toVs_back hl hr)
  | .ifc t y, v, h, w, w', S, S', x, hr => by
    cases hr with
    | ifc hr =>
      simp only [toV, Option.map_eq_some_iff] at h
      obtain ⟨l, hl, _⟩ := h
      exact .ifc (toV_back hl hr)
  | .any, _, h, _, _, _, _, _, _ | .ptr _ _ _ _, _, h, _, _, _, _, _, _ | .elt _, _, h, _, _, _, _, _, _ | .slc _, _, h, _, _, _, _, _, _ | .own _ _ _, _, h, _, _, _, _, _, _ | .win _ _ _ _, _, h, _, _, _, _, _, _ | .map _, _, h, _, _, _, _, _, _ | .clo _ _ _, _, h, _, _, _, _, _, _ => by simp [toV] at h
theorem toVs_back : ∀ {ds : List D} {vs : List Value}, toVs ds = some vs → ∀ {w w' : World} {S S' : Nat → Prop} {xs : List Value}, RepL w S ds xs → RepL w' S' ds xs
  | [], _, _, _, _, _, _, _, hr => by rw [hr.nil_inv]; exact .nil
  | d :: ds, vs, h, w, w', S, S', xs, hr => by
    obtain ⟨y, ys, rfl, h1, h2⟩ := hr.cons_inv
    simp only [toVs, Option.bind_eq_some_iff, Option.map_eq_some_iff] at h
    obtain ⟨a, ha, b, hb, _⟩ := h
    exact .cons (toV_back ha h1) (toVs_back hb h2)
end
theorem AC.lendR {R0 : AEnd → Prop} (hv : Views σ args args') (hd : ∀ e, R0 e → ∃ d, e = .ret d ∧ (toV d).isSome = true) (h : AC P f args' [] (fun e σ' => R0 e ∧ σ' = [])) : AC P f args σ (fun e σ' => R0 e ∧ σ' = σ) := by
  intro w S vs hS hst hr
  obtain ⟨S1, hS1, hr1⟩ := hv w S vs hS hst hr
  refine (h w S1 vs hS1 (fun b o hb => by simp at hb) hr1).mono ?_
  rintro e w' ⟨ae, σ', S', ⟨hR, rfl⟩, hend, hst', hfr⟩
  obtain ⟨d, rfl, hd⟩ := hd _ hR
  obtain ⟨v, hv⟩ := Option.isSome_iff_exists.1 hd
  have hE : Ev w S w' S := ⟨fun _ h => h, fun b hb => hfr.block b (hS.lt b hb) (fun h => h rfl), hfr.shape⟩
  refine ⟨.ret d, σ, S, ⟨hR, rfl⟩, ?_, fun b o hb => ⟨(hst b o hb).1, (hst b o hb).2.ev hE (hfr.block b (hst b o hb).2.lt (fun h => h rfl))⟩, ⟨hfr.os, hfr.tape, hfr.output, hfr.size, hfr.shape, fun b hb _ => hfr.block b hb (fun h => h rfl), fun _ h => h, fun _ h => .inl h, fun _ h => .inl h, fun b hb => Nat.lt_of_lt_of_le (hS.lt b hb) hfr.size⟩⟩
  cases e with
  | returned x => exact toV_back hv hend
  | panicked c => exact hend.elim
  | outgrown => exact hend.elim
theorem AC.lend {d : D} (hv : Views σ args args') (hd : (toV d).isSome = true) (h : AC P f args' [] (fun e σ' => e = .ret d ∧ σ' = [])) : AC P f args σ (fun e σ' => e = .ret d ∧ σ' = σ) :=
  AC.lendR (R0 := fun e => e = .ret d) hv (fun e he => ⟨d, he, hd⟩) h
theorem RepL.v_inv {w : World} {S : Nat → Prop} : ∀ {xs ys : List Value}, RepL w S (xs.map D.v) ys → ys = xs
  | [], _, h => h.nil_inv
  | x :: xs, _, h => by
    obtain ⟨y, ys, rfl, h1, h2⟩ := h.cons_inv
    rw [h1.v_inv, RepL.v_inv h2]
theorem fr_below {w w' : World} {S : Nat → Prop} {σ : Store} (hS : ∀ b, S b → b < w.heap.size) (h : Below w.heap.size w w') : Fr w S (sdom σ) w' S σ where
  os := h.os
  tape := h.tape
  output := h.output
  size := h.size
  shape := fun b c e fr hb => ⟨c, fr, (h.block _ (Array.getElem?_eq_some_iff.1 hb).1).trans hb, rfl⟩
  block := fun b hb _ => h.block b hb
  mono := fun _ h => h
  new := fun _ h => .inl h
  dom := fun _ h => .inl h
  lt := fun b hb => Nat.lt_of_lt_of_le (hS b hb) h.size
theorem store_below {w w' : World} {S : Nat → Prop} {σ : Store} (hS : ∀ b, S b → b < w.heap.size) (hst : RepStore w S σ) (h : Below w.heap.size w w') : RepStore w' S σ := fun b o hb =>
  ⟨(hst b o hb).1, (hst b o hb).2.ev ⟨fun _ h => h, fun k hk => h.block k (hS k hk), (fr_below (σ := σ) hS h).shape⟩ (h.block b (hst b o hb).2.lt)⟩
theorem AC.of_calls {vs : List Value} {R0 : Value → Prop} (h : ∀ w : World, GOk w (fun b => b < w.heap.size) → Calls P f vs.toArray w fun e w' => (∃ v, e = .returned v ∧ R0 v ∧ okV v = true) ∧ Below w.heap.size w w') :
    AC P f (vs.map .v) σ (fun e σ' => (∃ v, e = .ret (ofV v) ∧ R0 v) ∧ σ' = σ) := by
  intro w S ys hS hst hr
  rw [RepL.v_inv hr]
  refine (h w fun g vs hg => ⟨hS.lt g (hS.g g vs hg).1, (hS.g g vs hg).2⟩).mono ?_
  rintro e w' ⟨⟨v, rfl, hR, ho⟩, hb⟩
  exact ⟨.ret (ofV v), σ, S, ⟨⟨v, rfl, hR⟩, rfl⟩, rep_ofV ho, store_below hS.lt hst hb, fr_below hS.lt hb⟩
theorem AC.of_calls1 {vs : List Value} {r : Value} (ho : okV r = true) (h : ∀ w : World, Calls P f vs.toArray w fun e w' => e = .returned r ∧ w' = w) :
    AC P f (vs.map .v) σ (fun e σ' => e = .ret (ofV r) ∧ σ' = σ) := by
  refine (AC.of_calls (R0 := fun v => v = r) fun w _ => (h w).mono ?_).mono ?_
  · rintro e w' ⟨rfl, rfl⟩
    exact ⟨⟨r, rfl, rfl, ho⟩, Below.refl _ _⟩
  · rintro e σ' ⟨⟨v, rfl, rfl⟩, rfl⟩
    exact ⟨rfl, rfl⟩
theorem AC.of_calls2 {vs : List Value} {r : Value} (ho : okV r = true) (h : ∀ w : World, Calls P f vs.toArray w fun e w' => e = .returned r ∧ Below w.heap.size w w') :
    AC P f (vs.map .v) σ (fun e σ' => e = .ret (ofV r) ∧ σ' = σ) := by
  refine (AC.of_calls (R0 := fun v => v = r) fun w _ => (h w).mono ?_).mono ?_
  · rintro e w' ⟨rfl, hb⟩
    exact ⟨⟨r, rfl, rfl, ho⟩, hb⟩
  · rintro e σ' ⟨⟨v, rfl, rfl⟩, rfl⟩
    exact ⟨rfl, rfl⟩
end Go.Ab
namespace Go.Ab
open Go
variable {P : Program} {f : FuncId} {args : List D}
theorem AC.pubOwn {sz : Nat} {xs : List D} (h : AC P f args [] (fun e σ' => ∃ o, GrD o sz xs [] ∧ e = .ret (.own o sz xs.length) ∧ σ' = cellsOf o sz xs ++ [])) (σ : Store) : AC P f args σ (fun e σ' => e = .ret (.slc xs) ∧ σ' = σ) := by
  have h2 : AC P f args [] (fun e σ' => (e = .ret (.slc xs) ∧ σ' = []) ∨ ∃ b, e = .ret (.own (some b) sz xs.length) ∧ σ' = [(b, .arr sz xs)]) := by
    refine h.ret_le fun e σ' ⟨o, hg, he, hs⟩ => ?_
    cases o with
    | some b => exact .inl (.inr ⟨b, he, hs⟩)
    | none =>
      have : xs = [] := hg.zero rfl
      subst this
      exact .inr ⟨_, _, he, DLe.own_slc _ _, .inl ⟨rfl, hs⟩⟩
  refine h2.pub1 (R' := fun e => e = .ret (.slc xs)) (fun e σ' hR => ?_) σ
  rcases hR with h3 | ⟨b, rfl, rfl⟩
  · exact .inl h3
  · refine .inr ⟨_, b, sz, _, rfl, rfl, ?_⟩
    simp only [D.pub, true_and]
    rw [if_pos (Nat.le_refl _), List.take_length]
end Go.Ab
namespace Go.Ab.S21
open Go
theorem fr_drew_alloc {w : World} {S : Nat → Prop} {σ : Store} (hS : ∀ b, S b → b < w.heap.size) (ob : Obj) (x : AObj) : Fr w S (sdom σ) (w.drew.alloc ob) S ((w.heap.size, x) :: σ) where
  os := rfl
  tape := rfl
  output := rfl
  size := by simp
  shape := fun b c e fr h => by
    obtain ⟨c', fr', h', hs⟩ := shape_alloc w.drew ob b c e fr h
    exact ⟨c', fr', h', hs⟩
  block := fun b hb _ => frozen_new w.drew ob b (by show b ≠ w.heap.size; omega)
  mono := fun _ h => h
  new := fun _ h => .inl h
  dom := fun b hb => by
    unfold sdom at *
    rw [sget_cons] at hb
    by_cases hbs : b = w.heap.size
    · exact .inr (by omega)
    · rw [if_neg hbs] at hb; exact .inl hb
  lt := fun b hb => by have := hS b hb; simp; omega
end Go.Ab.S21
namespace Go.Ab
open Go Go.Conc
theorem fr_obj {w : World} {S : Nat → Prop} {σ : Store} {b : Nat} {x y : AObj} {ob : Obj} (hl : ∀ b, S b → b < w.heap.size) (hs : sget b σ = some x) (hn : ∀ c e fr, w.heap[b]? ≠ some (.cells c e fr)) (hlt : b < w.heap.size) :
    Fr w S (sdom σ) { w with heap := w.heap.setIfInBounds b ob } S (sset b y σ) ∧ (∀ k, k ≠ b → ({ w with heap := w.heap.setIfInBounds b ob } : World).heap[k]? = w.heap[k]?) ∧ ({ w with heap := w.heap.setIfInBounds b ob } : World).heap[b]? = some ob := by
  have ho : ∀ k, k ≠ b → ({ w with heap := w.heap.setIfInBounds b ob } : World).heap[k]? = w.heap[k]? := fun k hk => by
    show (w.heap.setIfInBounds b ob)[k]? = _
    rw [Array.getElem?_setIfInBounds_ne (by omega)]
  refine ⟨fr_row (y := y) hl hs rfl rfl rfl (by simp) ho (fun k c e fr hk => ?_), ho, by simp [hlt]⟩
  by_cases hkb : k = b
  · subst hkb; exact absurd hk (hn c e fr)
  · exact ⟨c, fr, (ho k hkb).trans hk, rfl⟩
section
variable {P : Program} {N : Slots} {C : Ctx P N} {k : List Item} {env : Env} {σ : Store} {ops : Array Oper} {i : Nat} {rest : List Nat} {o : Oper}
theorem Gs.regionOpen {id : Nat} (keep : List Nat) (h : Gs C (.inRegion ops (List.range ops.size) :: k) (Ab.rebase keep env) σ) : Gs C (.code (.region id ops false) :: k) env σ :=
  .step (fun _ _ => stepR_region) (h.rebase keep)
theorem Gs.regionEnd (h : Gs C k env σ) : Gs C (.inRegion ops [] :: k) env σ := .step (fun _ _ => stepR_region_end) h
theorem Gs.op (ho : ops[i]? = some o) (hg : o.guard = none) (hnd : ∀ c, o.op ≠ .defer c) (hN : dstB N o.dst) (h : vcRes P (Pan C) (fun env' σ' => Gs C (.inRegion ops rest :: k) env' σ') o.dst env σ (aop P env σ o.op)) :
    Gs C (.inRegion ops (i :: rest) :: k) env σ := by
  intro a w S hd hs
  refine op_run ho (by simp [Region.wanted, hg]) hnd ?_
  exact op_sound (K := Gs C k) hs hd (dstB_ok hN) (fun a' w' ⟨hd', env', σ', S', hn, hs'⟩ => hn a' w' S' hd' hs') h
theorem IsCall.kind {f : FuncId} {R : AEnd → Store → Prop} (hC : IsCall C f R) : C.b.kind ≠ .early := by
  obtain ⟨w0, S0, σ0, hS, hst, cs, rfl⟩ := hC.ex
  intro h; cases h
theorem IsCall.round {f : FuncId} {R : AEnd → Store → Prop} (hC : IsCall C f R) : C.b.roundOf = none := by
  obtain ⟨w0, S0, σ0, hS, hst, cs, rfl⟩ := hC.ex
  rfl
theorem chan_ev {w : World} {S : Nat → Prop} {a : Act} {x : Operand} {v : Value} (hs : Sim C env σ w S a.tmps) (h : ev env x = .v v) : a.eval x = v := by
  have := ev_rep hs x
  rw [h] at this
  exact this.v_inv
theorem chan_obj {w : World} {S : Nat → Prop} {c cap : Nat} {buf : List Value} (hst : RepStore w S σ) (h : sget c σ = some (.ch cap buf)) : ¬ S c ∧ c < w.heap.size ∧ ∃ s r, w.heap[c]? = some (.chan cap buf.toArray false s r false) ∧ ∀ x ∈ buf, x.oneCell' = true := by
  obtain ⟨h1, h2⟩ := hst c _ h
  exact ⟨h1, h2.lt, h2⟩
theorem Gs.opSend (hk : C.b.kind ≠ .early) (hr : C.b.roundOf = none) (ho : ops[i]? = some o) (hg : o.guard = none) {ch x : Operand} (hop : o.op = .send ch x) (hdst : o.dst = none) {c cap : Nat} {buf : List Value} {v : Value}
    (hc : ev env ch = .v (.chan (some c))) (hx : ev env x = .v v) (hσ : sget c σ = some (.ch cap buf)) (hroom : buf.length < cap)
    (h : Gs C (.inRegion ops rest :: k) env (sset c (.ch cap (buf ++ [v])) σ)) : Gs C (.inRegion ops (i :: rest) :: k) env σ := by
  intro a w S hd hs
  rw [Frame.atR_of_none hr]
  have hw : Region.wanted o (yielded ops a.tmps) = true := by simp [Region.wanted, hg]
  obtain ⟨hSc, hlt, s, r', hh, hone⟩ := chan_obj hs.store hσ
  have hv1 : v.oneCell' = true := by
    have := ev_rep hs x
    rw [hx] at this
    cases this with | v h => exact h
  have hrun : (execOp a.eval o).run P w = .ok (.comm #[scase c v (.tuple #[])] true .send) w := by
    simp only [execOp, hop, chan_ev hs hc, chan_ev hs hx]; rfl
  have hst := step_lone_send_room (fr := C.b.at a (.inRegion ops (i :: rest) :: k)) (cs := C.cs) (stepG_comm ho hw hk hrun) hh (by simpa using hroom)
  have hfin : (C.b.at a (.inRegion ops (i :: rest) :: k)).finish undef = C.b.at a (.inRegion ops rest :: k) := by
    rw [Frame.finish_at, ho]; simp [hdst, Act.put]
  rw [hfin] at hst
  refine C.hZ _ _ (.one hst) ?_
  rw [← Frame.atR_of_none hr]
  obtain ⟨hfr, hother, hself⟩ := fr_obj (σ := σ) (x := .ch cap buf) (y := .ch cap (buf ++ [v])) (ob := .chan cap (buf.toArray.push v) false (s + 1) r' false) hs.fr.lt hσ (fun c' e' fr' hn => by rw [hh] at hn; cases hn) hlt
  have hE := sim_ev hs hfr
  refine h a _ S hd ⟨hs.env.ev hE, store_row hs.store hE hother hSc ⟨s + 1, r', hself.trans (by simp), fun y hy => ?_⟩, hs.fr.trans hfr, hs.size⟩
  rcases List.mem_append.1 hy with hy | hy
  · exact hone y hy
  · simp only [List.mem_singleton] at hy; subst hy; exact hv1
theorem Gs.opSelectRecv (hk : C.b.kind ≠ .early) (hr : C.b.roundOf = none) (ho : ops[i]? = some o) (hg : o.guard = none) {ch : Operand} {T : TypeId} {z : Value} (hz : rzero P T = some z) (hop : o.op = .select #[{ chan := ch, send := none, elem := T }] false) (hN : dstB N o.dst) {c cap : Nat} {buf : List Value} {v : Value}
    (hc : ev env ch = .v (.chan (some c))) (hσ : sget c σ = some (.ch cap (v :: buf)))
    (h : Gs C (.inRegion ops rest :: k) (eputo o.dst (.tup [.v (.int .i64 0), .v (.bool true), .v v]) env) (sset c (.ch cap buf) σ)) : Gs C (.inRegion ops (i :: rest) :: k) env σ := by
  intro a w S hd hs
  rw [Frame.atR_of_none hr]
  have hw : Region.wanted o (yielded ops a.tmps) = true := by simp [Region.wanted, hg]
  obtain ⟨hSc, hlt, s, r', hh, hone⟩ := chan_obj hs.store hσ
  have hrun : (execOp a.eval o).run P w = .ok (.comm #[rcase c z] false .select) w := by
    simp [execOp, hop, chan_ev hs hc, run_zeroValue hz, rcase]
  have hst := step_lone_select_recv_buf (fr := C.b.at a (.inRegion ops (i :: rest) :: k)) (cs := C.cs) (stepG_comm ho hw hk hrun) hh (by simp)
  have hfin : ∀ v, (C.b.at a (.inRegion ops (i :: rest) :: k)).finish v = C.b.at (a.put o.dst v) (.inRegion ops rest :: k) := by
    intro v; rw [Frame.finish_at, ho]; rfl
  rw [hfin] at hst
  refine C.hZ _ _ (.one hst) ?_
  rw [← Frame.atR_of_none hr]
  obtain ⟨hfr, hother, hself⟩ := fr_obj (σ := σ) (x := .ch cap (v :: buf)) (y := .ch cap buf) (ob := .chan cap ((v :: buf).toArray.extract 1 (v :: buf).toArray.size) false s (r' + 1) false) hs.fr.lt hσ (fun c' e' fr' hn => by rw [hh] at hn; cases hn) hlt
  have hE := sim_ev hs hfr
  have hst2 := store_row hs.store hE hother hSc (y := .ch cap buf) ⟨s, r' + 1, hself.trans (by simp), fun y hy => hone y (by simp [hy])⟩
  have hsim := sim_put hs (dstB_ok hN) (d := .tup [.v (.int .i64 0), .v (.bool true), .v v]) (v := .tuple #[goInt 0, .bool true, v]) (.tup (.cons (.v rfl) (.cons (.v rfl) (.cons (.v (hone v (by simp))) .nil)))) hst2 hfr
  exact h (a.put o.dst (.tuple #[goInt 0, .bool true, v])) _ S (by rw [put_defers]; exact hd) hsim
theorem Gs.opSelectNone (hk : C.b.kind ≠ .early) (hr : C.b.roundOf = none) (ho : ops[i]? = some o) (hg : o.guard = none) {ch : Operand} {T : TypeId} {z : Value} (hz : rzero P T = some z) (hz1 : z.oneCell' = true) (hop : o.op = .select #[{ chan := ch, send := none, elem := T }] false) (hN : dstB N o.dst) {c cap : Nat}
    (hc : ev env ch = .v (.chan (some c))) (hσ : sget c σ = some (.ch cap []))
    (h : Gs C (.inRegion ops rest :: k) (eputo o.dst (.tup [.v (.int .i64 (-1)), .v (.bool false), .v z]) env) σ) : Gs C (.inRegion ops (i :: rest) :: k) env σ := by
  intro a w S hd hs
  rw [Frame.atR_of_none hr]
  have hw : Region.wanted o (yielded ops a.tmps) = true := by simp [Region.wanted, hg]
  obtain ⟨hSc, hlt, s, r', hh, hone⟩ := chan_obj hs.store hσ
  have hrun : (execOp a.eval o).run P w = .ok (.comm #[rcase c z] false .select) w := by
    simp [execOp, hop, chan_ev hs hc, run_zeroValue hz, rcase]
  have hst := step_lone_select_default (fr := C.b.at a (.inRegion ops (i :: rest) :: k)) (cs := C.cs) (stepG_comm ho hw hk hrun) hh
  have hfin : ∀ v, (C.b.at a (.inRegion ops (i :: rest) :: k)).finish v = C.b.at (a.put o.dst v) (.inRegion ops rest :: k) := by
    intro v; rw [Frame.finish_at, ho]; rfl
  rw [hfin] at hst
  refine C.hZ _ _ (.one hst) ?_
  rw [← Frame.atR_of_none hr]
  have hsim := sim_put hs (dstB_ok hN) (d := .tup [.v (.int .i64 (-1)), .v (.bool false), .v z]) (v := .tuple #[goInt (-1), .bool false, z]) (.tup (.cons (.v rfl) (.cons (.v rfl) (.cons (.v hz1) .nil)))) hs.store (Fr.refl σ hs.fr.lt)
  exact h (a.put o.dst (.tuple #[goInt (-1), .bool false, z])) _ S (by rw [put_defers]; exact hd) hsim
end
end Go.Ab
