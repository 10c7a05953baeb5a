/- How the abstract machine is reckoned by simp. -/
import Derived.Test.YtcpcfglccnmmnaaAbFacts
import Derived.Test.YtcpcfglccnmmnaaAbW
set_option linter.unusedSimpArgs false
set_option linter.unusedVariables false
set_option linter.constructorNameAsVariable false
namespace Go.Ab
open Go

attribute [go_sem] aopD aopL litB aBuild0 Fixed inB isNone Keep dsts gd gset dstB rebase eget eput eputo ev aop aPick aAlloc aBox aLoad aStore aNilCheck aEq aNil ifcNil isIfc noSl aIndexAddr aIndex aSlice aFieldAddr aField aBuild aFill aBuildSlice aFillSlice aMakeSlice aLookup aFound aMapUpdate aDelete aTA aRange aNext aLen srcOf aAppend aBuiltin aExtract
  getc getcOk putc ixOf optIx okV ofV toV toVs scal initEnv cev resD resOne resPre byteOf isByte bD Value.oneCell'

attribute [go_sem] List.contains_cons List.contains_nil List.mem_cons List.not_mem_nil or_false false_or or_true true_or List.map_cons List.map_nil List.append_nil List.nil_append List.cons_append List.zipIdx_cons List.zipIdx_nil List.take_succ_cons List.take_zero List.take_nil List.drop_succ_cons List.drop_zero List.drop_nil List.length_cons List.length_nil List.headD_cons List.getD_cons_zero List.getD_cons_succ
  List.getElem?_cons_zero List.getElem?_cons_succ List.getElem?_nil List.getElem?_toArray List.replicate_zero List.replicate_succ List.set_cons_zero Option.isSome_some Option.isSome_none ne_eq  List.set_cons_succ List.all_cons List.all_nil Option.map_some Option.map_none Option.bind_some Option.bind_none Option.getD_some Option.getD_none Option.some.injEq Option.isSome_some Option.isSome_none
  Array.toList_map List.all_eq_true true_and and_true and_self if_true if_false forall_const not_true_eq_false not_false_eq_true Bool.true_eq_false Bool.false_eq_true true_implies false_implies implies_true Bool.not_true Bool.not_false Bool.and_true Bool.true_and Bool.or_false Bool.false_or Bool.and_false Bool.false_and Bool.or_true Bool.true_or
  Int.toNat_natCast Int.toNat_zero Int.toNat_one

/-! What is asked of a region unfolds one operation at a time, when the operation's result is known. -/
def gTup (d : D) : Bool := match d with | .tup [] => true | _ => false
def gBool (d : D) : Bool := match d with | .v (.bool _) => true | _ => false
def gIs (d : D) : Bool := match d with | .v (.bool t) => t | _ => false
@[go_sem] theorem gTup_tup : gTup (.tup []) = true := rfl
@[go_sem] theorem gTup_bool (t : Bool) : gTup (.v (.bool t)) = false := rfl
@[go_sem] theorem gBool_bool (t : Bool) : gBool (.v (.bool t)) = true := rfl
@[go_sem] theorem gIs_bool (t : Bool) : gIs (.v (.bool t)) = t := rfl
theorem guard_eq (d : D) (w : Bool) (A B s : Prop) : (match d with | .v (.bool t) => (t = w → A) ∧ (t = !w → B) | .tup [] => s | _ => False) = (if gTup d = true then s else if gBool d = true then (if gIs d = w then A else B) else False) := by
  split
  · rename_i t
    simp only [gTup_bool, gBool_bool, gIs_bool, Bool.false_eq_true, if_false, if_true]
    cases t <;> cases w <;> simp
  · rfl
  · rename_i h1 h2
    have e1 : gTup d = false := by
      unfold gTup
      split
      · exact absurd rfl h2
      · rfl
    have e2 : gBool d = false := by
      unfold gBool
      split
      · rename_i t; exact absurd rfl (h1 t)
      · rfl
    rw [e1, e2]; simp
theorem ite_intro {c : Prop} [Decidable c] {A B : Prop} (h1 : c → A) (h2 : ¬ c → B) : if c then A else B := by
  split
  · exact h1 ‹_›
  · exact h2 ‹_›
def opK (o : Option Oper) (f : Oper → Prop) : Prop := match o with | some o => f o | none => False
@[go_sem] theorem opK_some (o : Oper) (f : Oper → Prop) : opK (some o) f = f o := rfl
@[go_sem] theorem lkFree_nil (k : Nat) : lkFree [] k = True := rfl
@[go_sem] theorem lkFree_cons (p : Nat × Value) (r : List (Nat × Value)) (k : Nat) : lkFree (p :: r) k = (p.1 ≠ k ∧ lkFree r k) := rfl
section
variable {P : Program} {N : Slots} {ds : List (Option Nat)} {K next : Env → Store → Prop} {Qp : D → Store → Prop} {env : Env} {σ σ' : Store} {dst : Option Nat} {op : Op} {ty : TypeId} {pos : String} {after : Array Edge} {rest : List Oper} {lit bs lasts : List Nat} {ops : Array Oper} {pre : Prop} {d : D} {ob : AObj} {b : Option Nat} {sz : Nat} {xs : List D} {f : FuncId} {as' : List D}
@[go_sem] theorem vcRes_val : vcRes P Qp next dst env σ (.val pre d) = (pre ∧ next (eputo dst d env) σ) := rfl
@[go_sem] theorem vcRes_nd (ok : Bool → Prop) (f : Bool → D) : vcRes P Qp next dst env σ (.nd ok f) = ∀ t, ok t → next (eputo dst (f t) env) σ := rfl
@[go_sem] theorem vcRes_upd : vcRes P Qp next dst env σ (.upd pre d σ') = (pre ∧ next (eputo dst d env) σ') := rfl
@[go_sem] theorem vcRes_new (mk : Nat → D) : vcRes P Qp next dst env σ (.new pre ob mk) = (pre ∧ ∀ b, sget b σ = none → next (eputo dst (mk b) env) ((b, ob) :: σ)) := rfl
@[go_sem] theorem vcRes_app : vcRes P Qp next dst env σ (.app pre b sz xs) = (pre ∧ ∀ ob : Option Nat, (ob = none → xs = []) → Fresh ob (sdelo b σ) → next (eputo dst (.own ob sz xs.length) env) (cellsOf ob sz xs ++ sdelo b σ)) := rfl
@[go_sem] theorem vcRes_enter : vcRes P Qp next dst env σ (.enter f as') = VCall P Qp next dst env σ f as' := rfl
@[go_sem] theorem vcRes_panic : vcRes P Qp next dst env σ (.panic d) = Qp d σ := rfl
@[go_sem] theorem vcRes_bad : vcRes P Qp next dst env σ .bad = False := rfl
@[go_sem] theorem vcL_nil : vcL P N ds K Qp [] env σ = K env σ := rfl
@[go_sem] theorem vcL_none : vcL P N ds K Qp ({ dst := dst, op := op, type := ty, pos := pos, after := after, guard := none } :: rest) env σ = (dstB N dst ∧ vcRes P Qp (vcL P N ds K Qp rest) dst env σ (aop P env σ op)) := rfl
@[go_sem] theorem vcL_some (j : Nat) (w : Bool) : vcL P N ds K Qp ({ dst := dst, op := op, type := ty, pos := pos, after := after, guard := some (j, w) } :: rest) env σ = (dstB N dst ∧ if gTup (gd env ds j) = true then vcL P N ds K Qp rest (eputo dst (.tup []) env) σ else if gBool (gd env ds j) = true then
    (if gIs (gd env ds j) = w then vcRes P Qp (vcL P N ds K Qp rest) dst (gset env ds j w) σ (aop P (gset env ds j w) σ op) else vcL P N ds K Qp rest (eputo dst (.tup []) (gset env ds j (!w))) σ) else False) := by
  rw [vcL]
  exact congrArg _ (guard_eq (gd env ds j) w _ _ _)
@[go_sem] theorem vcStep_none : vcStep P N lit ds Qp next { dst := dst, op := op, type := ty, pos := pos, after := after, guard := none } env σ = (dstB N dst ∧ vcRes P Qp next dst env σ (aopD P lit env σ { dst := dst, op := op, type := ty, pos := pos, after := after, guard := none })) := rfl
@[go_sem] theorem vcStep_some (j : Nat) (w : Bool) : vcStep P N lit ds Qp next { dst := dst, op := op, type := ty, pos := pos, after := after, guard := some (j, w) } env σ = (dstB N dst ∧ if gTup (gd env ds j) = true then next (eputo dst (.tup []) env) σ else if gBool (gd env ds j) = true then
    (if gIs (gd env ds j) = w then vcRes P Qp next dst env σ (aopD P lit env σ { dst := dst, op := op, type := ty, pos := pos, after := after, guard := some (j, w) }) else next (eputo dst (.tup []) env) σ) else False) := by
  rw [vcStep]
  exact congrArg _ (guard_eq (gd env ds j) w _ _ _)
@[go_sem] theorem vcM_nil : vcM P N lit ds K Qp [] env σ = K env σ := rfl
@[go_sem] theorem vcM_cons (o : Oper) : vcM P N lit ds K Qp (o :: rest) env σ = vcStep P N lit ds Qp (vcM P N lit ds K Qp rest) o env σ := rfl
@[go_sem] theorem vcD_nil : vcD P N lit bs lasts ops K Qp [] env σ = K env σ := rfl
@[go_sem] theorem vcD_true (i : Nat) (r : List (Nat × Bool)) : vcD P N lit bs lasts ops K Qp ((i, true) :: r) env σ = opK ops[i]? fun o => Fixed lit bs env o ∧ vcStep P N lit (dsts ops) Qp (vcD P N lit bs lasts ops K Qp r) o env σ := by
  simp only [vcD, opK, if_true]
  cases ops[i]? <;> rfl
@[go_sem] theorem vcD_false (i : Nat) (r : List (Nat × Bool)) : vcD P N lit bs lasts ops K Qp ((i, false) :: r) env σ = opK ops[i]? fun o => vcStep P N lit (dsts ops) Qp (fun env' σ' => Keep bs lasts i σ σ' ∧ vcD P N lit bs lasts ops K Qp r env' σ') o env σ := by
  simp only [vcD, opK, Bool.false_eq_true, if_false]
  cases ops[i]? <;> rfl
@[go_sem] theorem ro_val : roRes (.val pre d) = .val pre d := rfl
@[go_sem] theorem ro_new (mk : Nat → D) : roRes (.new pre (.arr sz xs) mk) = .val (pre ∧ ∀ b, mk b = .own (some b) sz xs.length) (.slc xs) := rfl
@[go_sem] theorem ro_app : roRes (.app pre none sz xs) = .val pre (.slc xs) := rfl
end
section
@[go_sem] theorem cells_v (x : Value) : (D.v x).cells = [D.v x] := rfl
@[go_sem] theorem cell_v (x : Value) : (D.v x).cell = true := rfl
@[go_sem] theorem plain_v (x : Value) : (D.v x).plain = true := rfl
@[go_sem] theorem cells_ptr (b sz i o : Nat) : (D.ptr b sz i o).cells = [D.ptr b sz i o] := rfl
@[go_sem] theorem cell_ptr (b sz i o : Nat) : (D.ptr b sz i o).cell = true := rfl
@[go_sem] theorem plain_ptr (b sz i o : Nat) : (D.ptr b sz i o).plain = true := rfl
@[go_sem] theorem cells_elt (cs : List D) : (D.elt cs).cells = [D.elt cs] := rfl
@[go_sem] theorem cell_elt (cs : List D) : (D.elt cs).cell = true := rfl
@[go_sem] theorem plain_elt (cs : List D) : (D.elt cs).plain = true := rfl
@[go_sem] theorem cells_slc (xs : List D) : (D.slc xs).cells = [D.slc xs] := rfl
@[go_sem] theorem cell_slc (xs : List D) : (D.slc xs).cell = true := rfl
@[go_sem] theorem plain_slc (xs : List D) : (D.slc xs).plain = true := rfl
@[go_sem] theorem cells_own (b : Option Nat) (sz n : Nat) : (D.own b sz n).cells = [D.own b sz n] := rfl
@[go_sem] theorem cell_own (b : Option Nat) (sz n : Nat) : (D.own b sz n).cell = true := rfl
@[go_sem] theorem plain_own (b : Option Nat) (sz n : Nat) : (D.own b sz n).plain = true := rfl
@[go_sem] theorem cells_map (b : Nat) : (D.map b).cells = [D.map b] := rfl
@[go_sem] theorem cell_map (b : Nat) : (D.map b).cell = true := rfl
@[go_sem] theorem plain_map (b : Nat) : (D.map b).plain = true := rfl
@[go_sem] theorem cells_clo (f : Fn) (a c : List D) : (D.clo f a c).cells = [D.clo f a c] := rfl
@[go_sem] theorem cell_clo (f : Fn) (a c : List D) : (D.clo f a c).cell = true := rfl
@[go_sem] theorem plain_clo (f : Fn) (a c : List D) : (D.clo f a c).plain = true := rfl
@[go_sem] theorem cells_ifc (t : TypeId) (x : D) : (D.ifc t x).cells = [D.ifc t x] := rfl
@[go_sem] theorem cell_ifc (t : TypeId) (x : D) : (D.ifc t x).cell = true := rfl
@[go_sem] theorem plain_ifc (t : TypeId) (x : D) : (D.ifc t x).plain = true := rfl
@[go_sem] theorem cells_agg (cs : List D) : (D.agg cs).cells = cs := rfl
@[go_sem] theorem cell_agg (cs : List D) : (D.agg cs).cell = false := rfl
@[go_sem] theorem plain_agg (cs : List D) : (D.agg cs).plain = cs.all D.cell := rfl
variable {σ : Store} {b c sz : Nat} {o x : AObj} {xs : List D} {ob : Option Nat}
@[go_sem] theorem cellsOf_some : cellsOf (some b) sz xs = [(b, .arr sz xs)] := rfl
@[go_sem] theorem cellsOf_none : cellsOf none sz xs = [] := rfl
@[go_sem] theorem sdelo_none : sdelo none σ = σ := rfl
@[go_sem] theorem sdelo_some : sdelo (some b) σ = sdel b σ := rfl
@[go_sem] theorem sget_nil' : sget b [] = none := rfl
@[go_sem] theorem sget_self' : sget b ((b, o) :: σ) = some o := sget_self ..
@[go_sem] theorem sget_ne (h : b ≠ c) : sget b ((c, o) :: σ) = sget b σ := by rw [sget_cons, if_neg h]
theorem ne_of_fresh (hc : sget c σ = none) (hb : (sget b σ).isSome = true) : b ≠ c := fun e => by subst e; rw [hc] at hb; cases hb
@[go_sem] theorem sget_fresh (hc : sget c σ = none) (hb : (sget b σ).isSome = true) : sget b ((c, o) :: σ) = sget b σ := sget_ne (ne_of_fresh hc hb)
@[go_sem] theorem sset_self : sset b x ((b, o) :: σ) = (b, x) :: σ := by simp [sset]
@[go_sem] theorem sset_nil : sset b x [] = [] := rfl
@[go_sem] theorem sset_ne (h : b ≠ c) : sset b x ((c, o) :: σ) = (c, o) :: sset b x σ := by simp [sset, h]
@[go_sem] theorem sset_none (h : sget b σ = none) : sset b x σ = σ := by
  induction σ with
  | nil => rfl
  | cons p r ih =>
    obtain ⟨c, o⟩ := p
    rw [sget_cons] at h
    split at h
    · cases h
    · rename_i hbc; rw [sset_ne hbc, ih h]
@[go_sem] theorem sset_fresh (hc : sget c σ = none) (hb : (sget b σ).isSome = true) : sset b x ((c, o) :: σ) = (c, o) :: sset b x σ := sset_ne (ne_of_fresh hc hb)
@[go_sem] theorem sdel_self' : sdel b ((b, o) :: σ) = sdel b σ := sdel_self ..
@[go_sem] theorem sdel_nil : sdel b [] = [] := rfl
@[go_sem] theorem sdel_ne (h : b ≠ c) : sdel b ((c, o) :: σ) = (c, o) :: sdel b σ := by rw [sdel, if_neg h]
@[go_sem] theorem sdel_none (h : sget b σ = none) : sdel b σ = σ := sdel_fresh h
@[go_sem] theorem sdel_fresh' (hc : sget c σ = none) (hb : (sget b σ).isSome = true) : sdel b ((c, o) :: σ) = (c, o) :: sdel b σ := sdel_ne (ne_of_fresh hc hb)
@[go_sem] theorem oget_none' : oget sz none σ = some [] := rfl
@[go_sem] theorem oget_self : oget sz (some b) ((b, .arr sz xs) :: σ) = some xs := by simp [oget]
@[go_sem] theorem oget_cells : oget sz ob (cellsOf ob sz xs ++ σ) = some (if ob = none then [] else xs) := by cases ob <;> simp [oget, cellsOf]
@[go_sem] theorem oget_ne (h : b ≠ c) : oget sz (some b) ((c, o) :: σ) = oget sz (some b) σ := by simp only [oget]; rw [sget_ne h]
theorem oget_some_isSome (h : (oget sz (some b) σ).isSome = true) : (sget b σ).isSome = true := by
  unfold oget at h; cases hs : sget b σ with
  | none => simp [hs] at h
  | some o => rfl
@[go_sem] theorem oget_fresh (hc : sget c σ = none) (hb : (oget sz ob σ).isSome = true) : oget sz ob ((c, o) :: σ) = oget sz ob σ := by
  cases ob with
  | none => rfl
  | some b => exact oget_ne (ne_of_fresh hc (oget_some_isSome hb))
end

@[go_sem] theorem purely_pure {α : Type} (P : Program) (a : α) : purely P (pure a) = some a := rfl
theorem purely_bind' {α β : Type} (P : Program) : ∀ (s : Sem α) (f : α → Sem β), purely P (s.bind f) = (purely P s).bind fun a => purely P (f a)
  | .pure a, f => rfl
  | .program k, f => by simp only [Sem.bind, purely]; exact purely_bind' P (k P) f
  | .mark m k, f => by simp only [Sem.bind, purely]; exact purely_bind' P k f
  | .load .., f | .store .., f | .new .., f | .shape .., f | .freeze .., f | .frozen .., f | .getObj .., f | .setObj .., f | .choose .., f | .sys .., f | .halt .., f => rfl
@[go_sem] theorem purely_bind {α β : Type} (P : Program) (s : Sem α) (f : α → Sem β) : purely P (s >>= f) = (purely P s).bind fun a => purely P (f a) := purely_bind' P s f

@[go_sem] theorem conv_slc (P : Program) (σ : Store) (src dst : TypeId) (xs : List D) : aConv P σ src dst (.slc xs) = .val (isByteSlice P src = true ∧ isStr P dst = true ∧ xs.all isByte = true) (.v (.string (bytesOf xs))) := rfl
@[go_sem] theorem conv_own (P : Program) (σ : Store) (src dst : TypeId) (ob : Option Nat) (sz n : Nat) : aConv P σ src dst (.own ob sz n) = match oget 1 ob σ with
    | some xs => .val (isByteSlice P src = true ∧ isStr P dst = true ∧ xs.all isByte = true ∧ n ≤ xs.length) (.v (.string (bytesOf (xs.take n))))
    | none => .bad := rfl
@[go_sem] theorem conv_str (P : Program) (σ : Store) (src dst : TypeId) (s : ByteArray) : aConv P σ src dst (.v (.string s)) =
    if isByteSlice P dst = true ∧ isStr P src = true then .new (s.size < 2 ^ 46) (.arr 1 (s.data.toList.map bD)) (fun b => .own (some b) 1 s.size)
    else scal P (convert src dst (.string s)) := rfl

/-! The commonest operations on numbers, strings and bools. -/
section
variable (P : Program) (T : TypeId) (x y : Operand)
@[go_sem] theorem bin_add (k : IntKind) (a b : Int) : aBin P .add T x y (.v (.int k a)) (.v (.int k b)) = .val True (.v (.int k (k.wrap (a + b)))) := by simp [aBin, ifcNil, aBin0, toV, scal, eqGuard, binOp, Op.intArith, okV, ofV, purely_pure]
@[go_sem] theorem bin_sub (k : IntKind) (a b : Int) : aBin P .sub T x y (.v (.int k a)) (.v (.int k b)) = .val True (.v (.int k (k.wrap (a - b)))) := by simp [aBin, ifcNil, aBin0, toV, scal, eqGuard, binOp, Op.intArith, okV, ofV, purely_pure]
@[go_sem] theorem bin_mul (k : IntKind) (a b : Int) : aBin P .mul T x y (.v (.int k a)) (.v (.int k b)) = .val True (.v (.int k (k.wrap (a * b)))) := by simp [aBin, ifcNil, aBin0, toV, scal, eqGuard, binOp, Op.intArith, okV, ofV, purely_pure]
@[go_sem] theorem bin_lss (k : IntKind) (a b : Int) : aBin P .lss T x y (.v (.int k a)) (.v (.int k b)) = .val True (.v (.bool (decide (a < b)))) := by simp [aBin, ifcNil, aBin0, toV, scal, eqGuard, binOp, Op.intCmp, okV, ofV, purely_pure]
@[go_sem] theorem bin_leq (k : IntKind) (a b : Int) : aBin P .leq T x y (.v (.int k a)) (.v (.int k b)) = .val True (.v (.bool (decide (a ≤ b)))) := by simp [aBin, ifcNil, aBin0, toV, scal, eqGuard, binOp, Op.intCmp, okV, ofV, purely_pure]
@[go_sem] theorem bin_gtr (k : IntKind) (a b : Int) : aBin P .gtr T x y (.v (.int k a)) (.v (.int k b)) = .val True (.v (.bool (decide (a > b)))) := by simp [aBin, ifcNil, aBin0, toV, scal, eqGuard, binOp, Op.intCmp, okV, ofV, purely_pure]
@[go_sem] theorem bin_geq (k : IntKind) (a b : Int) : aBin P .geq T x y (.v (.int k a)) (.v (.int k b)) = .val True (.v (.bool (decide (a ≥ b)))) := by simp [aBin, ifcNil, aBin0, toV, scal, eqGuard, binOp, Op.intCmp, okV, ofV, purely_pure]
@[go_sem] theorem bin_eql (k : IntKind) (a b : Int) : aBin P .eql T x y (.v (.int k a)) (.v (.int k b)) = .val True (.v (.bool (a == b))) := by simp [aBin, ifcNil, aBin0, toV, scal, eqGuard, binOp, Op.intCmp, okV, ofV, purely_pure]
@[go_sem] theorem bin_neq (k : IntKind) (a b : Int) : aBin P .neq T x y (.v (.int k a)) (.v (.int k b)) = .val True (.v (.bool (a != b))) := by simp [aBin, ifcNil, aBin0, toV, scal, eqGuard, binOp, Op.intCmp, okV, ofV, purely_pure]
@[go_sem] theorem bin_seql (a b : ByteArray) : aBin P .eql T x y (.v (.string a)) (.v (.string b)) = .val True (.v (.bool (a.toList == b.toList))) := by simp [aBin, ifcNil, aBin0, toV, scal, eqGuard, binOp, Op.stringOp, okV, ofV, purely_pure]
@[go_sem] theorem bin_sneq (a b : ByteArray) : aBin P .neq T x y (.v (.string a)) (.v (.string b)) = .val True (.v (.bool !(a.toList == b.toList))) := by simp [aBin, ifcNil, aBin0, toV, scal, eqGuard, binOp, Op.stringOp, okV, ofV, purely_pure]
@[go_sem] theorem bin_sadd (a b : ByteArray) (h : a.size + b.size < 4611686018427387904) : aBin P .add T x y (.v (.string a)) (.v (.string b)) = .val True (.v (.string (a ++ b))) := by
  have h2 : ¬ ((a.size + b.size : Nat) : Int) > IntKind.i64.max := by simp [IntKind.max, IntKind.signed, IntKind.bits]; omega
  simp only [aBin, ifcNil, aBin0, toV, scal, eqGuard, binOp, Op.stringOp]
  rw [if_neg h2]
  simp [okV, ofV, purely_pure]
@[go_sem] theorem bin_slss (a b : ByteArray) : aBin P .lss T x y (.v (.string a)) (.v (.string b)) = .val True (.v (.bool (Op.bytesLess a.toList b.toList))) := by simp [aBin, ifcNil, aBin0, toV, scal, eqGuard, binOp, Op.stringOp, okV, ofV, purely_pure]
@[go_sem] theorem bin_shr (k kb : IntKind) (a : Int) (b : Nat) : aBin P .shr T x y (.v (.int k a)) (.v (.int kb (b : Int))) = .val True (.v (.int k (a.fdiv (2 ^ (min b k.bits))))) := by
  have h : ¬ ((b : Int) < 0) := by omega
  simp [aBin, ifcNil, aBin0, toV, scal, eqGuard, binOp, Op.shift, okV, ofV, purely_pure, h]
@[go_sem] theorem bin_shl (k kb : IntKind) (a : Int) (b : Nat) : aBin P .shl T x y (.v (.int k a)) (.v (.int kb (b : Int))) = .val True (.v (.int k (k.wrap (a * 2 ^ (min b k.bits))))) := by
  have h : ¬ ((b : Int) < 0) := by omega
  simp [aBin, ifcNil, aBin0, toV, scal, eqGuard, binOp, Op.shift, okV, ofV, purely_pure, h]
theorem purely_underlying : purely P (underlying T) = P.underlying T := by
  unfold underlying
  rw [purely_bind]
  show (some P).bind _ = _
  rw [Option.bind_some]
  cases h : P.underlying T <;> simp only [h] <;> rfl
@[go_sem] theorem conv_int (σ : Store) (src dst : TypeId) (k : IntKind) (n : Int) : aConv P σ src dst (.v (.int k n)) = match P.underlying src, P.underlying dst with
    | some _, some (.int k2) => .val True (.v (.int k2 (k2.wrap n)))
    | _, _ => scal P (convert src dst (.int k n)) := by
  show scal P (convert src dst (.int k n)) = _
  split
  · rename_i hs hd
    simp only [scal, convert, purely_bind, purely_underlying, hs, hd, Option.bind_some, Conv.intToInt, purely_pure, okV, ofV, if_true]
  · rfl
@[go_sem] theorem un_not (a : Bool) : aUn P .not (.v (.bool a)) = .val True (.v (.bool !a)) := by simp [aUn, toV, scal, Op.unary, purely_pure, okV, ofV]
end

/-! nil against nil. -/
section
variable (P : Program) (T : TypeId) (x : Operand) (c : Value)
theorem equalIn_nn {P : Program} {T : TypeId} (h : isIfc (P.underlying T) = true) (d : Nat) : purely P (Op.equalIn (d + 1) T .nilIface .nilIface) = some true := by
  have : ∃ ms, P.underlying T = some (.interface ms) := by
    unfold isIfc at h
    split at h
    · exact ⟨_, by assumption⟩
    · cases h
  obtain ⟨ms, hu⟩ := this
  simp only [Op.equalIn, purely_bind, purely_underlying, hu, Option.bind_some, purely_pure]
theorem equal_nn {P : Program} {T : TypeId} (h : isIfc (P.underlying T) = true) : purely P (Op.equal T .nilIface .nilIface) = some true := equalIn_nn h 9999
theorem purely_map {α β : Type} (P : Program) (f : α → β) (s : Sem α) : purely P (f <$> s) = (purely P s).map f := by
  rw [map_eq_pure_bind, purely_bind]
  cases purely P s <;> rfl
@[go_sem] theorem bin_nn_neq (h : isIfc (P.underlying T) = true) : aBin P .neq T x (.const c) (.v .nilIface) (.v .nilIface) = .val True (.v (.bool false)) := by
  simp [aBin, ifcNil, aBin0, toV, scal, eqGuard, binOp, purely_bind, purely_map, equal_nn h, okV, ofV, purely_pure]
@[go_sem] theorem bin_nn_eql (h : isIfc (P.underlying T) = true) : aBin P .eql T x (.const c) (.v .nilIface) (.v .nilIface) = .val True (.v (.bool true)) := by
  simp [aBin, ifcNil, aBin0, toV, scal, eqGuard, binOp, purely_bind, purely_map, equal_nn h, okV, ofV, purely_pure]
end

/-! Comparing what is no plain value. -/
section
variable (P : Program) (op : BinOp) (T : TypeId) (xo yo : Operand) (y : D)
@[go_sem] theorem bin_of_ptr (b sz i o : Nat) : aBin P op T xo yo (.ptr b sz i o) y =
  match toV (.ptr b sz i o), toV y with
  | some a, some b => scal P (do eqGuard op T xo yo a b; binOp op T a b)
  | _, _ =>
    match op, aEq (P.underlying T) (.ptr b sz i o) y with
    | .eql, some t => .val True (.v (.bool t))
    | .neq, some t => .val True (.v (.bool !t))
    | _, _ =>
      match op, aNil (P.underlying T) (.ptr b sz i o) y with
      | .eql, some ok => .nd ok fun t => .v (.bool t)
      | .neq, some ok => .nd ok fun t => .v (.bool !t)
      | _, _ => .bad := rfl

@[go_sem] theorem bin_of_elt (cs : List D) : aBin P op T xo yo (.elt cs) y =
  match toV (.elt cs), toV y with
  | some a, some b => scal P (do eqGuard op T xo yo a b; binOp op T a b)
  | _, _ =>
    match op, aEq (P.underlying T) (.elt cs) y with
    | .eql, some t => .val True (.v (.bool t))
    | .neq, some t => .val True (.v (.bool !t))
    | _, _ =>
      match op, aNil (P.underlying T) (.elt cs) y with
      | .eql, some ok => .nd ok fun t => .v (.bool t)
      | .neq, some ok => .nd ok fun t => .v (.bool !t)
      | _, _ => .bad := rfl

@[go_sem] theorem bin_of_slc (xs : List D) : aBin P op T xo yo (.slc xs) y =
  match toV (.slc xs), toV y with
  | some a, some b => scal P (do eqGuard op T xo yo a b; binOp op T a b)
  | _, _ =>
    match op, aEq (P.underlying T) (.slc xs) y with
    | .eql, some t => .val True (.v (.bool t))
    | .neq, some t => .val True (.v (.bool !t))
    | _, _ =>
      match op, aNil (P.underlying T) (.slc xs) y with
      | .eql, some ok => .nd ok fun t => .v (.bool t)
      | .neq, some ok => .nd ok fun t => .v (.bool !t)
      | _, _ => .bad := rfl

@[go_sem] theorem bin_of_own (b : Option Nat) (sz n : Nat) : aBin P op T xo yo (.own b sz n) y =
  match toV (.own b sz n), toV y with
  | some a, some b => scal P (do eqGuard op T xo yo a b; binOp op T a b)
  | _, _ =>
    match op, aEq (P.underlying T) (.own b sz n) y with
    | .eql, some t => .val True (.v (.bool t))
    | .neq, some t => .val True (.v (.bool !t))
    | _, _ =>
      match op, aNil (P.underlying T) (.own b sz n) y with
      | .eql, some ok => .nd ok fun t => .v (.bool t)
      | .neq, some ok => .nd ok fun t => .v (.bool !t)
      | _, _ => .bad := rfl

@[go_sem] theorem bin_of_map (b : Nat) : aBin P op T xo yo (.map b) y =
  match toV (.map b), toV y with
  | some a, some b => scal P (do eqGuard op T xo yo a b; binOp op T a b)
  | _, _ =>
    match op, aEq (P.underlying T) (.map b) y with
    | .eql, some t => .val True (.v (.bool t))
    | .neq, some t => .val True (.v (.bool !t))
    | _, _ =>
      match op, aNil (P.underlying T) (.map b) y with
      | .eql, some ok => .nd ok fun t => .v (.bool t)
      | .neq, some ok => .nd ok fun t => .v (.bool !t)
      | _, _ => .bad := rfl

@[go_sem] theorem bin_of_clo (f : Fn) (a c : List D) : aBin P op T xo yo (.clo f a c) y =
  match toV (.clo f a c), toV y with
  | some a, some b => scal P (do eqGuard op T xo yo a b; binOp op T a b)
  | _, _ =>
    match op, aEq (P.underlying T) (.clo f a c) y with
    | .eql, some t => .val True (.v (.bool t))
    | .neq, some t => .val True (.v (.bool !t))
    | _, _ =>
      match op, aNil (P.underlying T) (.clo f a c) y with
      | .eql, some ok => .nd ok fun t => .v (.bool t)
      | .neq, some ok => .nd ok fun t => .v (.bool !t)
      | _, _ => .bad := rfl

@[go_sem] theorem bin0_of_ifc (t : TypeId) (x : D) : aBin0 P op T xo yo (.ifc t x) y =
  match toV (.ifc t x), toV y with
  | some a, some b => scal P (do eqGuard op T xo yo a b; binOp op T a b)
  | _, _ =>
    match op, aEq (P.underlying T) (.ifc t x) y with
    | .eql, some t => .val True (.v (.bool t))
    | .neq, some t => .val True (.v (.bool !t))
    | _, _ =>
      match op, aNil (P.underlying T) (.ifc t x) y with
      | .eql, some ok => .nd ok fun t => .v (.bool t)
      | .neq, some ok => .nd ok fun t => .v (.bool !t)
      | _, _ => .bad := rfl

@[go_sem] theorem bin_of_ifc (t : TypeId) (x : D) : aBin P op T xo yo (.ifc t x) y = match ifcNil (P.underlying T) (.ifc t x) y, op with
  | true, .eql => .val True (.v (.bool false))
  | true, .neq => .val True (.v (.bool true))
  | _, _ => aBin0 P op T xo yo (.ifc t x) y := rfl
end

/-- A loop, by a measure of what its invariant tells. -/
theorem Goes.while {P : Program} {N : Slots} {C : Ctx P N} {c : Code} {k : List Item} {env : Env} {σ : Store} {α : Type} (I : α → Env → Store → Prop) (μ : α → Nat) (a0 : α) (h0 : I a0 env σ)
    (round : ∀ a env σ, I a env σ → (∀ b env' σ', I b env' σ' → μ b < μ a → Goes C (.inLoop c :: k) env' σ') → Goes C (.code c :: .inLoop c :: k) env σ) : Goes C (.code (.loop c) :: k) env σ := by
  have key : ∀ n a env σ, μ a = n → I a env σ → Goes C (.code c :: .inLoop c :: k) env σ := by
    intro n
    induction n using Nat.strongRecOn with
    | _ n ih =>
      intro a env σ hn hI
      exact round a env σ hI fun b env' σ' hI' hlt => Goes.inLoop (ih (μ b) (by omega) b env' σ' rfl hI')
  exact Goes.loop (key _ a0 env σ rfl h0)

theorem wrap_in (n : Int) (h0 : -9223372036854775808 ≤ n) (h1 : n ≤ 9223372036854775807) : IntKind.i64.wrap n = n := by rw [IntKind.wrap_i64]; omega
theorem wrap_succ (n : Nat) (h : n < 4611686018427387904) : IntKind.i64.wrap ((n : Int) + 1) = ((n + 1 : Nat) : Int) := by rw [IntKind.wrap_i64]; omega

end Go.Ab
