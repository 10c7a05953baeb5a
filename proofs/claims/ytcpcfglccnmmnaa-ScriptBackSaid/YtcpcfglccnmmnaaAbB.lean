/- The store, the frame of a step, contracts ('ACalls') and states of a walk ('Goes'), with the rules of control. -/
import Derived.Test.YtcpcfglccnmmnaaAbA
import Derived.Calls
import Derived.Tactics
set_option linter.unusedSimpArgs false
set_option linter.unusedVariables false
set_option linter.constructorNameAsVariable false
namespace Go.Ab
open Go

/-- What the store holds: a row of elements of sz cells each; a map, entry by entry; an iterator over a string. -/
inductive AObj where
  | arr (sz : Nat) (xs : List D)
  | mp (es : List (Value × D))
  | sit (s : ByteArray) (pos : Nat)
  deriving Inhabited

abbrev Store := List (Nat × AObj)
abbrev Env := List (Nat × D)

def sget (b : Nat) : Store → Option AObj
  | [] => none
  | (c, o) :: r => if b = c then some o else sget b r
def sset (b : Nat) (x : AObj) : Store → Store
  | [] => []
  | (c, o) :: r => if b = c then (c, x) :: r else (c, o) :: sset b x r
def sdel (b : Nat) : Store → Store
  | [] => []
  | (c, o) :: r => if b = c then sdel b r else (c, o) :: sdel b r
def sdelo (b : Option Nat) (σ : Store) : Store := match b with | some b => sdel b σ | none => σ

@[simp] theorem sget_nil (b : Nat) : sget b [] = none := rfl
theorem sget_cons (b c : Nat) (o : AObj) (r : Store) : sget b ((c, o) :: r) = if b = c then some o else sget b r := rfl
@[simp] theorem sget_self (b : Nat) (o : AObj) (r : Store) : sget b ((b, o) :: r) = some o := by simp [sget]

theorem sget_sset (b c : Nat) (x : AObj) (σ : Store) : sget b (sset c x σ) = if b = c then (sget c σ).map fun _ => x else sget b σ := by
  induction σ with
  | nil => simp [sset, sget]
  | cons p r ih =>
    obtain ⟨d, o⟩ := p
    by_cases hcd : c = d
    · subst hcd
      by_cases hb : b = c
      · subst hb; simp [sset, sget]
      · simp [sset, sget, hb]
    · by_cases hbd : b = d
      · subst hbd
        have : ¬ b = c := fun h => hcd h.symm
        simp [sset, sget, hcd, this]
      · simp [sset, sget, hcd, hbd, ih]

theorem sget_sdel (b c : Nat) (σ : Store) : sget b (sdel c σ) = if b = c then none else sget b σ := by
  induction σ with
  | nil => simp [sdel, sget]
  | cons p r ih =>
    obtain ⟨d, o⟩ := p
    by_cases hcd : c = d
    · subst hcd
      by_cases hb : b = c
      · subst hb; simp [sdel, ih]
      · simp [sdel, sget, hb, ih]
    · by_cases hbd : b = d
      · subst hbd
        have : ¬ b = c := fun h => hcd h.symm
        simp [sdel, sget, hcd, this]
      · simp [sdel, sget, hcd, hbd, ih]

def sdom (σ : Store) (b : Nat) : Prop := sget b σ ≠ none

def RepObj (w : World) (S : Nat → Prop) (b : Nat) : AObj → Prop
  | .arr sz xs => ∃ (c : Array Value) (e : TypeId) (lo hi : Nat) (vals : List Value), w.heap[b]? = some (.cells c e (lo, hi)) ∧ RepL w S (flat xs) vals ∧
      (∀ (k : Nat) (x : Value), vals[k]? = some x → c[k]? = some x) ∧ (∀ x ∈ xs, x.cells.length = sz) ∧ (hi ≤ lo ∨ c.size ≤ lo)
  | .mp es => ∃ (entries : Array MapEntry) (clock : Nat), w.heap[b]? = some (.map entries clock) ∧ RepL w S (es.map (·.2)) (entries.toList.map (·.val)) ∧
      es.map (·.1) = entries.toList.map (·.key) ∧ (∀ e ∈ entries.toList, e.born < clock) ∧ (entries.toList.map (·.born)).Nodup
  | .sit s p => w.heap[b]? = some (.stringIter s p)

theorem RepObj.lt {w : World} {S : Nat → Prop} {b : Nat} {o : AObj} (h : RepObj w S b o) : b < w.heap.size := by
  have : ∃ x, w.heap[b]? = some x := by
    cases o with
    | arr sz xs => obtain ⟨c, e, lo, hi, vals, h, _⟩ := h; exact ⟨_, h⟩
    | mp es => obtain ⟨c, k, h, _⟩ := h; exact ⟨_, h⟩
    | sit s p => exact ⟨Obj.stringIter s p, h⟩
  obtain ⟨x, hx⟩ := this
  exact (Array.getElem?_eq_some_iff.1 hx).1

theorem RepObj.ev {w w' : World} {S S' : Nat → Prop} {b : Nat} {o : AObj} (h : RepObj w S b o) (hE : Ev w S w' S') (hs : w'.heap[b]? = w.heap[b]?) : RepObj w' S' b o := by
  cases o with
  | arr sz xs => obtain ⟨c, e, lo, hi, vals, h, h1, h2⟩ := h; exact ⟨c, e, lo, hi, vals, hs.trans h, h1.ev hE, h2⟩
  | mp es => obtain ⟨c, k, h, h1, h2⟩ := h; exact ⟨c, k, hs.trans h, h1.ev hE, h2⟩
  | sit s p => exact (show w'.heap[b]? = some (.stringIter s p) from hs.trans (show w.heap[b]? = some (.stringIter s p) from h))

def RepStore (w : World) (S : Nat → Prop) (σ : Store) : Prop := ∀ b o, sget b σ = some o → ¬ S b ∧ RepObj w S b o

/-- A smaller store: whatever it holds is held. -/
def SLe (σ σ' : Store) : Prop := ∀ b o, sget b σ = some o → sget b σ' = some o
theorem SLe.refl (σ : Store) : SLe σ σ := fun _ _ h => h
theorem RepStore.le {w : World} {S : Nat → Prop} {σ σ' : Store} (h : RepStore w S σ') (hl : SLe σ σ') : RepStore w S σ := fun b o hb => h b o (hl b o hb)

/-- From (w0, S0), with the rows F of one's own, to (w, S) and the store σ: what was there besides is as it was. -/
structure Fr (w0 : World) (S0 F : Nat → Prop) (w : World) (S : Nat → Prop) (σ : Store) : Prop where
  os : w.os = w0.os
  tape : w.tape = w0.tape
  output : w.output = w0.output
  size : w0.heap.size ≤ w.heap.size
  shape : Shape w0 w
  block : ∀ b, b < w0.heap.size → ¬ F b → w.heap[b]? = w0.heap[b]?
  mono : ∀ b, S0 b → S b
  new : ∀ b, S b → S0 b ∨ F b ∨ w0.heap.size ≤ b
  dom : ∀ b, sdom σ b → F b ∨ w0.heap.size ≤ b
  lt : ∀ b, S b → b < w.heap.size

theorem Fr.refl {w : World} {S : Nat → Prop} (σ : Store) (h : ∀ b, S b → b < w.heap.size) : Fr w S (sdom σ) w S σ :=
  ⟨rfl, rfl, rfl, Nat.le_refl _, Shape.refl w, fun _ _ _ => rfl, fun _ h => h, fun _ h => .inl h, fun _ h => .inl h, h⟩

theorem Fr.ev {w0 w : World} {S0 F S : Nat → Prop} {σ : Store} (h : Fr w0 S0 F w S σ) (hS : ∀ b, S0 b → b < w0.heap.size ∧ ¬ F b) : Ev w0 S0 w S :=
  ⟨h.mono, fun b hb => h.block b (hS b hb).1 (hS b hb).2, h.shape⟩

theorem Fr.trans {w0 w1 w2 : World} {S0 F S1 S2 : Nat → Prop} {σ1 σ2 : Store} (h : Fr w0 S0 F w1 S1 σ1) (k : Fr w1 S1 (sdom σ1) w2 S2 σ2) : Fr w0 S0 F w2 S2 σ2 where
  os := k.os.trans h.os
  tape := k.tape.trans h.tape
  output := k.output.trans h.output
  size := Nat.le_trans h.size k.size
  shape := h.shape.trans k.shape
  block := fun b hb hF => by
    have hd : ¬ sdom σ1 b := fun hd => by rcases h.dom b hd with h1 | h1; exact hF h1; omega
    rw [k.block b (Nat.lt_of_lt_of_le hb h.size) hd, h.block b hb hF]
  mono := fun b hb => k.mono b (h.mono b hb)
  new := fun b hb => by
    rcases k.new b hb with h1 | h1 | h1
    · exact h.new b h1
    · exact .inr (h.dom b h1)
    · exact .inr (.inr (Nat.le_trans h.size h1))
  dom := fun b hb => by
    rcases k.dom b hb with h1 | h1
    · exact h.dom b h1
    · exact .inr (Nat.le_trans h.size h1)
  lt := k.lt

theorem Fr.le {w0 w : World} {S0 F S : Nat → Prop} {σ σ' : Store} (h : Fr w0 S0 F w S σ') (hl : SLe σ σ') : Fr w0 S0 F w S σ :=
  { h with dom := fun b hb => h.dom b (by
      unfold sdom at *
      cases hs : sget b σ with
      | none => exact absurd hs hb
      | some o => rw [hl b o hs]; simp) }

/-- How a call ends: with a value, or with a panic of one value. -/
inductive AEnd where
  | ret (d : D)
  | panic (d : D)

def RepEnd (w : World) (S : Nat → Prop) : AEnd → Ending → Prop
  | .ret d, .returned v => Rep w S d v
  | .panic d, .panicked chain => ∃ v, chain = [{ v, recovered := false }] ∧ Rep w S d v
  | _, _ => False

/-- The contract of a call, over the abstract machine. -/
def ACalls (P : Program) (f : FuncId) (args : List D) (σ : Store) (R : AEnd → Store → Prop) : Prop :=
  ∀ (w : World) (S : Nat → Prop) (vs : List Value), (∀ b, S b → b < w.heap.size) → RepStore w S σ → RepL w S args vs →
    Calls P f vs.toArray w fun e w' => ∃ ae σ' S', R ae σ' ∧ RepEnd w' S' ae e ∧ RepStore w' S' σ' ∧ Fr w S (sdom σ) w' S' σ'

theorem ACalls.mono {P : Program} {f : FuncId} {args : List D} {σ : Store} {R R' : AEnd → Store → Prop} (h : ACalls P f args σ R) (hr : ∀ e σ', R e σ' → R' e σ') : ACalls P f args σ R' :=
  fun w S vs h1 h2 h3 => (h w S vs h1 h2 h3).mono fun _ _ ⟨ae, σ', S', q, r⟩ => ⟨ae, σ', S', hr _ _ q, r⟩

def eget (k : Nat) : Env → D
  | [] => .any
  | (j, d) :: r => if k = j then d else eget k r

def eput (k : Nat) (d : D) (env : Env) : Env := (k, d) :: env

def eputo (k : Option Nat) (d : D) (env : Env) : Env := match k with | some k => eput k d env | none => env

theorem eget_eput (j k : Nat) (d : D) (env : Env) : eget j (eput k d env) = if j = k then d else eget j env := rfl

def RepEnv (w : World) (S : Nat → Prop) (env : Env) (tmps : Array Value) : Prop := ∀ k, Rep w S (eget k env) (tmps.getD k undef)

theorem Rep.v_inv {w : World} {S : Nat → Prop} {x y : Value} (h : Rep w S (.v x) y) : y = x := by cases h; rfl

theorem RepEnv.ev {w w' : World} {S S' : Nat → Prop} {env : Env} {tmps : Array Value} (h : RepEnv w S env tmps) (hE : Ev w S w' S') : RepEnv w' S' env tmps := fun k => (h k).ev hE

theorem RepEnv.put {w : World} {S : Nat → Prop} {env : Env} {tmps : Array Value} (h : RepEnv w S env tmps) {k : Nat} {d : D} {x : Value} (hd : Rep w S d x) (hk : k < tmps.size) :
    RepEnv w S (eput k d env) (tmps.setIfInBounds k x) := by
  intro j
  rw [eget_eput]
  by_cases hj : j = k
  · subst hj
    simp [Array.getD, hk, hd]
  · have := h j
    simp only [hj, if_false]
    have e : (tmps.setIfInBounds k x).getD j undef = tmps.getD j undef := by
      simp only [Array.getD_eq_getD_getElem?, Array.getElem?_setIfInBounds]
      rw [if_neg (fun h => hj h.symm)]
    rw [e]; exact this

/-- A smaller environment: whatever it tells is told. -/
def ELe (env env' : Env) : Prop := ∀ k, eget k env = .any ∨ eget k env = eget k env'
theorem ELe.refl (env : Env) : ELe env env := fun _ => .inr rfl
theorem RepEnv.le {w : World} {S : Nat → Prop} {env env' : Env} {tmps : Array Value} (h : RepEnv w S env' tmps) (hl : ELe env env') : RepEnv w S env tmps := fun k => by
  rcases hl k with h1 | h1
  · rw [h1]; exact .any
  · rw [h1]; exact h k

/-- How many slots there are, and what some of them hold for good. -/
structure Slots where
  n : Nat
  lk : List (Nat × Value)

def SlotsOk (N : Slots) (tmps : Array Value) : Prop := tmps.size = N.n ∧ ∀ p ∈ N.lk, tmps.getD p.1 undef = p.2

/-- Where a walk is: the frame that runs, its callers, its deferred calls, how many slots it has, where it began, and what is to be come to. -/
structure Ctx (P : Program) (N : Slots) where
  b : Frame
  cs : List Frame
  ds : List Deferred
  w0 : World
  S0 : Nat → Prop
  F : Nat → Prop
  Z : Machine → Prop
  hZ : ∀ m m', Steps P m m' → Z m' → Z m
  hS : ∀ b, S0 b → b < w0.heap.size ∧ ¬ F b

structure Sim {P : Program} {N : Slots} (C : Ctx P N) (env : Env) (σ : Store) (w : World) (S : Nat → Prop) (tmps : Array Value) : Prop where
  env : RepEnv w S env tmps
  store : RepStore w S σ
  fr : Fr C.w0 C.S0 C.F w S σ
  size : SlotsOk N tmps

/-- From every state that the environment and the store tell of, with this to do, the end is come to. -/
def Goes {P : Program} {N : Slots} (C : Ctx P N) (todo : List Item) (env : Env) (σ : Store) : Prop :=
  ∀ (a : Act) (w : World) (S : Nat → Prop), a.defers = C.ds → Sim C env σ w S a.tmps → C.Z (lone (C.b.at a todo) C.cs w)

/-- The same where a panic leaves the frame. -/
def Pan {P : Program} {N : Slots} (C : Ctx P N) (d : D) (σ : Store) : Prop :=
  ∀ (a : Act) (todo : List Item) (w : World) (S : Nat → Prop) (v : Value), a.defers = C.ds → Rep w S d v → RepStore w S σ → Fr C.w0 C.S0 C.F w S σ → SlotsOk N a.tmps →
    C.Z (lone { C.b.at a todo with mode := .panicking [{ v, recovered := false }] } C.cs w)

def cev (env : Env) : Operand → D
  | .tmp t => eget t env
  | .const (.bool b) => .v (.bool b)
  | _ => .any

section rules
variable {P : Program} {N : Slots} {C : Ctx P N} {k : List Item} {env : Env} {σ : Store}

theorem Goes.step {todo todo' : List Item} (hs : ∀ a w, step P (lone (C.b.at a todo) C.cs w) = .next (lone (C.b.at a todo') C.cs w)) (h : Goes C todo' env σ) : Goes C todo env σ :=
  fun a w S hd hsim => C.hZ _ _ (.one (hs a w)) (h a w S hd hsim)

theorem Goes.seq {x y : Code} (h : Goes C (.code x :: .code y :: k) env σ) : Goes C (.code (.seq x y) :: k) env σ := .step (fun _ _ => step_seq) h
theorem Goes.skip (h : Goes C k env σ) : Goes C (.code .skip :: k) env σ := .step (fun _ _ => step_skip) h
theorem Goes.label {l : Nat} (h : Goes C k env σ) : Goes C (.code (.label l) :: k) env σ := .step (fun _ _ => step_label) h
theorem Goes.inBlock {id : Nat} (h : Goes C k env σ) : Goes C (.inBlock id :: k) env σ := .step (fun _ _ => step_inBlock) h
theorem Goes.block {id : Nat} {c : Code} (h : Goes C (.code c :: .inBlock id :: k) env σ) : Goes C (.code (.block id c) :: k) env σ := .step (fun _ _ => step_block) h
theorem Goes.loop {c : Code} (h : Goes C (.code c :: .inLoop c :: k) env σ) : Goes C (.code (.loop c) :: k) env σ := .step (fun _ _ => step_loop) h
theorem Goes.inLoop {c : Code} (h : Goes C (.code c :: .inLoop c :: k) env σ) : Goes C (.inLoop c :: k) env σ := .step (fun _ _ => step_inLoop) h
theorem Goes.exit {id : Nat} {k' : List Item} (he : exitTo id k = some k') (h : Goes C k' env σ) : Goes C (.code (.exit id) :: k) env σ := .step (fun _ _ => step_exit he) h
theorem Goes.goto {l : Nat} {k' : List Item} (he : gotoIn l k = some k') (h : Goes C k' env σ) : Goes C (.code (.goto l) :: k) env σ := .step (fun _ _ => step_goto he) h

theorem Goes.le {todo : List Item} {env' : Env} {σ' : Store} (he : ELe env' env) (hs : SLe σ' σ) (h : Goes C todo env' σ') : Goes C todo env σ :=
  fun a w S hd hsim => h a w S hd ⟨hsim.env.le he, hsim.store.le hs, hsim.fr.le hs, hsim.size⟩

theorem Goes.cond {c : Operand} {x y : Code} {t : Bool} (hc : cev env c = .v (.bool t)) (h1 : t = true → Goes C (.code x :: k) env σ) (h2 : t = false → Goes C (.code y :: k) env σ) :
    Goes C (.code (.cond c x y) :: k) env σ := by
  intro a w S hd hsim
  have hev : a.eval c = .bool t := by
    cases c with
    | tmp i =>
      have h := hsim.env i
      simp only [cev] at hc
      rw [hc] at h
      exact h.v_inv
    | const x => cases x <;> simp_all [cev, Act.eval]
    | global g => simp [cev] at hc
    | func f => simp [cev] at hc
  refine C.hZ _ _ (.one (step_cond hev)) ?_
  cases t with
  | true => exact h1 rfl a w S hd hsim
  | false => exact h2 rfl a w S hd hsim

end rules
end Go.Ab
