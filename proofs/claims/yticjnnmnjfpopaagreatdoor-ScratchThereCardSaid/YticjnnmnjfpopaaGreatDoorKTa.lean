/- A part of a proof about the given program: the abstract machine, what functions compute, laid in few texts. -/
import Derived.WalkKit
import Derived.Calls
import Derived.Tactics
import Derived.AtR
import Derived.Laws.IdiomCopy
import Derived.Laws.IdiomStrings
import Derived.Laws.MakeOwn
import Derived.Laws.RangeAny
set_option linter.unusedSimpArgs false
set_option linter.unusedVariables false
set_option linter.constructorNameAsVariable false
namespace Go.Ab
open Go
inductive D : Type where
  | any
  | v (x : Value)
  | ptr (b sz i o : Nat)
  | elt (cs : List D)
  | slc (xs : List D)
  | own (b : Option Nat) (sz n : Nat)
  | win (b sz off n : Nat)
  | agg (cs : List D)
  | tup (xs : List D)
  | map (b : Nat)
  | clo (fn : Fn) (first caps : List D)
  | ifc (t : TypeId) (x : D)
  deriving Inhabited
def D.cells : D → List D
  | .agg cs => cs
  | x => [x]
def flat (xs : List D) : List D := xs.flatMap D.cells
@[simp] theorem flat_nil : flat [] = [] := rfl
@[simp] theorem flat_cons (x : D) (xs : List D) : flat (x :: xs) = x.cells ++ flat xs := rfl
@[simp] theorem flat_append (xs ys : List D) : flat (xs ++ ys) = flat xs ++ flat ys := by simp [flat]
def CellsAt (w : World) (b off : Nat) (vals : List Value) : Prop := ∀ k x, vals[k]? = some x → w.cell? ⟨b, off + k, none⟩ = some x
mutual
inductive Rep (w : World) (S : Nat → Prop) : D → Value → Prop
  | any {x : Value} : Rep w S .any x
  | v {x : Value} (h : x.oneCell' = true) : Rep w S (.v x) x
  | ptr {b sz i o : Nat} : Rep w S (.ptr b sz i o) (.pointer (some ⟨b, i * sz + o, none⟩))
  | elt {cs : List D} {b off : Nat} {vals : List Value} (hb : S b) (hr : RepL w S cs vals) (hc : CellsAt w b off vals) : Rep w S (.elt cs) (.pointer (some ⟨b, off, none⟩))
  | slc0 {a : Option Addr} {cap : Nat} : Rep w S (.slc []) (.slice a 0 cap)
  | slc {xs : List D} {b off cap sz : Nat} {vals : List Value} (hb : S b) (hr : RepL w S (flat xs) vals) (hc : CellsAt w b off vals) (hs : ∀ x ∈ xs, x.cells.length = sz) (hcap : xs.length ≤ cap) :
      Rep w S (.slc xs) (.slice (some ⟨b, off, none⟩) xs.length cap)
  | own0 {a : Option Addr} {sz : Nat} : Rep w S (.own none sz 0) (.slice a 0 0)
  | own {b sz n cap : Nat} {c : Array Value} {e : TypeId} {fr : Nat × Nat} (hh : w.heap[b]? = some (.cells c e fr)) (hn : n ≤ cap) (hc : cap * sz ≤ c.size) (hm : cap ≤ 9223372036854775807) :
      Rep w S (.own (some b) sz n) (.slice (some ⟨b, 0, none⟩) n cap)
  | win0 {b sz off : Nat} {a : Option Addr} {cap : Nat} : Rep w S (.win b sz off 0) (.slice a 0 cap)
  | win {b sz off n cap : Nat} {c : Array Value} {e : TypeId} {fr : Nat × Nat} (hh : w.heap[b]? = some (.cells c e fr)) (hn : n ≤ cap) (hc : (off + cap) * sz ≤ c.size) (hm : cap ≤ 9223372036854775807) :
      Rep w S (.win b sz off n) (.slice (some ⟨b, off * sz, none⟩) n cap)
  | agg {cs : List D} {vals : List Value} (hr : RepL w S cs vals) : Rep w S (.agg cs) (.agg vals.toArray)
  | tup {xs : List D} {vals : List Value} (hr : RepL w S xs vals) : Rep w S (.tup xs) (.tuple vals.toArray)
  | map {b : Nat} : Rep w S (.map b) (.map (some b))
  | clo {fn : Fn} {f c : List D} {fv cv : List Value} (hf : RepL w S f fv) (hc : RepL w S c cv) : Rep w S (.clo fn f c) (.func fn fv.toArray cv.toArray)
  | ifc {t : TypeId} {x : D} {xv : Value} (h : Rep w S x xv) : Rep w S (.ifc t x) (.iface t xv)
inductive RepL (w : World) (S : Nat → Prop) : List D → List Value → Prop
  | nil : RepL w S [] []
  | cons {d : D} {x : Value} {ds : List D} {xs : List Value} (h : Rep w S d x) (t : RepL w S ds xs) : RepL w S (d :: ds) (x :: xs)
end
def Shape (w w' : World) : Prop := ∀ (b : Nat) (c : Array Value) (e : TypeId) (fr : Nat × Nat), w.heap[b]? = some (.cells c e fr) → ∃ (c' : Array Value) (fr' : Nat × Nat), w'.heap[b]? = some (.cells c' e fr') ∧ c'.size = c.size
structure Ev (w : World) (S : Nat → Prop) (w' : World) (S' : Nat → Prop) : Prop where
  mono : ∀ b, S b → S' b
  same : ∀ b, S b → w'.heap[b]? = w.heap[b]?
  shape : Shape w w'
theorem Shape.refl (w : World) : Shape w w := fun _ c _ fr h => ⟨c, fr, h, rfl⟩
theorem Shape.trans {a b c : World} (h : Shape a b) (k : Shape b c) : Shape a c := by
  intro i x e fr hx
  obtain ⟨c1, fr1, h1, s1⟩ := h i x e fr hx
  obtain ⟨c2, fr2, h2, s2⟩ := k i c1 e fr1 h1
  exact ⟨c2, fr2, h2, s2.trans s1⟩
theorem Ev.refl (w : World) (S : Nat → Prop) : Ev w S w S := ⟨fun _ h => h, fun _ _ => rfl, Shape.refl w⟩
theorem Ev.trans {w1 w2 w3 : World} {S1 S2 S3 : Nat → Prop} (h : Ev w1 S1 w2 S2) (k : Ev w2 S2 w3 S3) : Ev w1 S1 w3 S3 :=
  ⟨fun b hb => k.mono b (h.mono b hb), fun b hb => (k.same b (h.mono b hb)).trans (h.same b hb), h.shape.trans k.shape⟩
theorem cell_of_block {w w' : World} {a : Addr} (h : w'.heap[a.block]? = w.heap[a.block]?) : w'.cell? a = w.cell? a := by simp [World.cell?, h]
theorem CellsAt.of_same {w w' : World} {b off : Nat} {vals : List Value} (h : CellsAt w b off vals) (hs : w'.heap[b]? = w.heap[b]?) : CellsAt w' b off vals :=
  fun k x hk => (cell_of_block (a := ⟨b, off + k, none⟩) hs).trans (h k x hk)
mutual
theorem Rep.ev {w w' : World} {S S' : Nat → Prop} (hE : Ev w S w' S') {d : D} {x : Value} : Rep w S d x → Rep w' S' d x
  | .any => .any
  | .v h => .v h
  | .ptr => .ptr
  | .elt hb hr hc => .elt (hE.mono _ hb) (RepL.ev hE hr) (hc.of_same (hE.same _ hb))
  | .slc0 => .slc0
  | .slc hb hr hc hs hcap => .slc (hE.mono _ hb) (RepL.ev hE hr) (hc.of_same (hE.same _ hb)) hs hcap
  | .own0 => .own0
  | .own hh hn hc hm => by
    obtain ⟨c', fr', h', hsz⟩ := hE.shape _ _ _ _ hh
    exact .own h' hn (by rw [hsz]; exact hc) hm
  | .win0 => .win0
  | .win hh hn hc hm => by
    obtain ⟨c', fr', h', hsz⟩ := hE.shape _ _ _ _ hh
    exact .win h' hn (by rw [hsz]; exact hc) hm
  | .agg hr => .agg (RepL.ev hE hr)
  | .tup hr => .tup (RepL.ev hE hr)
  | .map => .map
  | .clo hf hc => .clo (RepL.ev hE hf) (RepL.ev hE hc)
  | .ifc h => .ifc (Rep.ev hE h)
theorem RepL.ev {w w' : World} {S S' : Nat → Prop} (hE : Ev w S w' S') {ds : List D} {xs : List Value} : RepL w S ds xs → RepL w' S' ds xs
  | .nil => .nil
  | .cons h t => .cons (Rep.ev hE h) (RepL.ev hE t)
end
theorem RepL.length {w : World} {S : Nat → Prop} : ∀ {ds : List D} {xs : List Value}, RepL w S ds xs → xs.length = ds.length
  | _, _, .nil => rfl
  | _, _, .cons _ t => by simp [t.length]
theorem RepL.get {w : World} {S : Nat → Prop} : ∀ {ds : List D} {xs : List Value}, RepL w S ds xs → ∀ (i : Nat) (d : D), ds[i]? = some d → ∃ x, xs[i]? = some x ∧ Rep w S d x
  | _, _, .nil, i, d, h => by simp at h
  | _, _, .cons (x := x) h t, 0, d, hd => by simp at hd; subst hd; exact ⟨x, by simp, h⟩
  | _, _, .cons h t, i + 1, d, hd => by
    obtain ⟨y, hy, hr⟩ := t.get i d (by simpa using hd)
    exact ⟨y, by simpa using hy, hr⟩
theorem RepL.append {w : World} {S : Nat → Prop} : ∀ {ds es : List D} {xs ys : List Value}, RepL w S ds xs → RepL w S es ys → RepL w S (ds ++ es) (xs ++ ys)
  | _, _, _, _, .nil, k => k
  | _, _, _, _, .cons h t, k => .cons h (t.append k)
theorem RepL.split {w : World} {S : Nat → Prop} : ∀ {ds es : List D} {zs : List Value}, RepL w S (ds ++ es) zs → ∃ xs ys, zs = xs ++ ys ∧ RepL w S ds xs ∧ RepL w S es ys
  | [], _, zs, h => ⟨[], zs, rfl, .nil, h⟩
  | d :: ds, es, zs, h => by
    cases h with
    | cons h t =>
      obtain ⟨xs, ys, rfl, h1, h2⟩ := t.split
      exact ⟨_ :: xs, ys, rfl, .cons h h1, h2⟩
theorem RepL.take {w : World} {S : Nat → Prop} {ds : List D} {xs : List Value} (h : RepL w S ds xs) (n : Nat) : RepL w S (ds.take n) (xs.take n) := by
  induction n generalizing ds xs with
  | zero => simp; exact .nil
  | succ n ih => cases h with
    | nil => simp; exact .nil
    | cons h t => exact .cons h (ih t)
theorem RepL.drop {w : World} {S : Nat → Prop} {ds : List D} {xs : List Value} (h : RepL w S ds xs) (n : Nat) : RepL w S (ds.drop n) (xs.drop n) := by
  induction n generalizing ds xs with
  | zero => simpa using h
  | succ n ih => cases h with
    | nil => simp; exact .nil
    | cons h t => exact ih t
theorem RepL.set {w : World} {S : Nat → Prop} {ds : List D} {xs : List Value} (h : RepL w S ds xs) (i : Nat) {d : D} {x : Value} (hd : Rep w S d x) : RepL w S (ds.set i d) (xs.set i x) := by
  induction i generalizing ds xs with
  | zero => cases h with
    | nil => exact .nil
    | cons h t => exact .cons hd t
  | succ n ih => cases h with
    | nil => exact .nil
    | cons h t => exact .cons h (ih t)
theorem RepL.one {w : World} {S : Nat → Prop} {d : D} {x : Value} (h : Rep w S d x) : RepL w S [d] [x] := .cons h .nil
theorem RepL.cons_inv {w : World} {S : Nat → Prop} {d : D} {ds : List D} {vs : List Value} (h : RepL w S (d :: ds) vs) : ∃ x xs, vs = x :: xs ∧ Rep w S d x ∧ RepL w S ds xs := by
  cases h with
  | cons h t => exact ⟨_, _, rfl, h, t⟩
theorem RepL.nil_inv {w : World} {S : Nat → Prop} {vs : List Value} (h : RepL w S [] vs) : vs = [] := by cases h; rfl
def D.known : D → Bool
  | .any | .tup _ => false
  | _ => true
theorem Rep.cells {w : World} {S : Nat → Prop} {d : D} {x : Value} (h : Rep w S d x) (hk : d.known = true) : RepL w S d.cells x.cells.toList := by
  cases h with
  | any => simp [D.known] at hk
  | tup => simp [D.known] at hk
  | v h => cases x <;> simp_all [Value.cells, D.cells, Value.oneCell'] <;> exact .one (.v rfl)
  | agg hr => simpa [Value.cells, D.cells] using hr
  | ptr => exact .one .ptr
  | elt hb hr hc => exact .one (.elt hb hr hc)
  | slc0 => exact .one .slc0
  | slc hb hr hc hs hcap => exact .one (.slc hb hr hc hs hcap)
  | own0 => exact .one .own0
  | own hh hn hc hm => exact .one (.own hh hn hc hm)
  | win0 => exact .one .win0
  | win hh hn hc hm => exact .one (.win hh hn hc hm)
  | map => exact .one .map
  | clo hf hc => exact .one (.clo hf hc)
  | ifc h => exact .one (.ifc h)
def D.cell : D → Bool
  | .any | .tup _ | .agg _ => false
  | _ => true
theorem Rep.one_cell {w : World} {S : Nat → Prop} {d : D} {x : Value} (h : Rep w S d x) (hk : d.cell = true) : x.oneCell' = true := by
  cases h <;> simp_all [D.cell, Value.oneCell']
theorem RepL.one_cell {w : World} {S : Nat → Prop} : ∀ {ds : List D} {xs : List Value}, RepL w S ds xs → (∀ d ∈ ds, d.cell = true) → ∀ x ∈ xs, x.oneCell' = true
  | _, _, .nil, _, x, hx => by simp at hx
  | _, _, .cons h t, hc, x, hx => by
    rcases List.mem_cons.1 hx with rfl | hx
    · exact h.one_cell (hc _ (by simp))
    · exact t.one_cell (fun d hd => hc d (by simp [hd])) x hx
def D.plain (d : D) : Bool := d.known && d.cells.all D.cell
abbrev Env := List (Nat × D)
def eget (k : Nat) : Env → D
  | [] => .any
  | (j, d) :: r => if k = j then d else eget k r
inductive AObj where
  | arr (sz : Nat) (xs : List D)
  | mp (es : List (Value × D))
  | sit (s : ByteArray) (pos : Nat)
  | ch (cap : Nat) (buf : List Value)
  | lp (st : LoopState) (pd : Option Code) (fn : FuncId) (n : Nat) (env : Env) (ps : Array Tmp) (asg bd : Code) (df : Nat)
  | dblk
  deriving Inhabited
abbrev Store := List (Nat × AObj)
def sget (b : Nat) : Store → Option AObj
  | [] => none
  | (c, o) :: r => if b = c then some o else sget b r
def sset (b : Nat) (x : AObj) : Store → Store
  | [] => []
  | (c, o) :: r => if b = c then (c, x) :: r else (c, o) :: sset b x r
def sdel (b : Nat) : Store → Store
  | [] => []
  | (c, o) :: r => if b = c then sdel b r else (c, o) :: sdel b r
def sdelo (b : Option Nat) (σ : Store) : Store := match b with | some b => sdel b σ | none => σ
@[simp] theorem sget_nil (b : Nat) : sget b [] = none := rfl
theorem sget_cons (b c : Nat) (o : AObj) (r : Store) : sget b ((c, o) :: r) = if b = c then some o else sget b r := rfl
@[simp] theorem sget_self (b : Nat) (o : AObj) (r : Store) : sget b ((b, o) :: r) = some o := by simp [sget]
theorem sget_sset (b c : Nat) (x : AObj) (σ : Store) : sget b (sset c x σ) = if b = c then (sget c σ).map fun _ => x else sget b σ := by
  induction σ with
  | nil => simp [sset, sget]
  | cons p r ih =>
    obtain ⟨d, o⟩ := p
    by_cases hcd : c = d
    · subst hcd
      by_cases hb : b = c
      · subst hb; simp [sset, sget]
      · simp [sset, sget, hb]
    · by_cases hbd : b = d
      · subst hbd
        have : ¬ b = c := fun h => hcd h.symm
        simp [sset, sget, hcd, this]
      · simp [sset, sget, hcd, hbd, ih]
theorem sget_sdel (b c : Nat) (σ : Store) : sget b (sdel c σ) = if b = c then none else sget b σ := by
  induction σ with
  | nil => simp [sdel, sget]
  | cons p r ih =>
    obtain ⟨d, o⟩ := p
    by_cases hcd : c = d
    · subst hcd
      by_cases hb : b = c
      · subst hb; simp [sdel, ih]
      · simp [sdel, sget, hb, ih]
    · by_cases hbd : b = d
      · subst hbd
        have : ¬ b = c := fun h => hcd h.symm
        simp [sdel, sget, hcd, this]
      · simp [sdel, sget, hcd, hbd, ih]
def sdom (σ : Store) (b : Nat) : Prop := sget b σ ≠ none
def RepObj (w : World) (S : Nat → Prop) (b : Nat) : AObj → Prop
  | .arr sz xs => ∃ (c : Array Value) (e : TypeId) (lo hi : Nat) (vals : List Value), w.heap[b]? = some (.cells c e (lo, hi)) ∧ RepL w S (flat xs) vals ∧
      (∀ (k : Nat) (x : Value), vals[k]? = some x → c[k]? = some x) ∧ (∀ x ∈ xs, x.cells.length = sz) ∧ (hi ≤ lo ∨ c.size ≤ lo)
  | .mp es => ∃ (entries : Array MapEntry) (clock : Nat), w.heap[b]? = some (.map entries clock) ∧ RepL w S (es.map (·.2)) (entries.toList.map (·.val)) ∧
      es.map (·.1) = entries.toList.map (·.key) ∧ (∀ e ∈ entries.toList, e.born < clock) ∧ (entries.toList.map (·.born)).Nodup
  | .sit s p => w.heap[b]? = some (.stringIter s p)
  | .ch cap buf => ∃ s r : Nat, w.heap[b]? = some (.chan cap buf.toArray false s r false) ∧ ∀ x ∈ buf, x.oneCell' = true
  | .lp st pd fn n env ps asg bd df => ∃ tmps : Array Value, w.heap[b]? = some (.loop { state := st, pending := pd, fn := fn, tmps := tmps, params := ps, assign := asg, body := bd, defers := df }) ∧ tmps.size = n ∧ ∀ k, Rep w S (eget k env) (tmps.getD k undef)
  | .dblk => w.heap[b]? = some (.deferred (some []))
theorem RepObj.lt {w : World} {S : Nat → Prop} {b : Nat} {o : AObj} (h : RepObj w S b o) : b < w.heap.size := by
  have : ∃ x, w.heap[b]? = some x := by
    cases o with
    | arr sz xs => obtain ⟨c, e, lo, hi, vals, h, _⟩ := h; exact ⟨_, h⟩
    | mp es => obtain ⟨c, k, h, _⟩ := h; exact ⟨_, h⟩
    | sit s p => exact ⟨Obj.stringIter s p, h⟩
    | ch cap buf => obtain ⟨s, r, h, _⟩ := h; exact ⟨_, h⟩
    | lp => obtain ⟨tmps, h, _⟩ := h; exact ⟨_, h⟩
    | dblk => exact ⟨Obj.deferred (some []), h⟩
  obtain ⟨x, hx⟩ := this
  exact (Array.getElem?_eq_some_iff.1 hx).1
theorem RepObj.ev {w w' : World} {S S' : Nat → Prop} {b : Nat} {o : AObj} (h : RepObj w S b o) (hE : Ev w S w' S') (hs : w'.heap[b]? = w.heap[b]?) : RepObj w' S' b o := by
  cases o with
  | arr sz xs => obtain ⟨c, e, lo, hi, vals, h, h1, h2⟩ := h; exact ⟨c, e, lo, hi, vals, hs.trans h, h1.ev hE, h2⟩
  | mp es => obtain ⟨c, k, h, h1, h2⟩ := h; exact ⟨c, k, hs.trans h, h1.ev hE, h2⟩
  | sit s p => exact (show w'.heap[b]? = some (.stringIter s p) from hs.trans (show w.heap[b]? = some (.stringIter s p) from h))
  | ch cap buf => obtain ⟨s, r, h, h1⟩ := h; exact ⟨s, r, hs.trans h, h1⟩
  | lp => obtain ⟨tmps, h, h1, h2⟩ := h; exact ⟨tmps, hs.trans h, h1, fun k => (h2 k).ev hE⟩
  | dblk => exact (show w'.heap[b]? = some (.deferred (some [])) from hs.trans (show w.heap[b]? = some (.deferred (some [])) from h))
def glaid : List (Nat × List Value) := [(3, [.int .u8 0, .int .u8 1, .int .u8 56, .int .u8 2, .int .u8 57, .int .u8 49, .int .u8 28, .int .u8 3, .int .u8 61, .int .u8 58, .int .u8 42, .int .u8 50, .int .u8 38, .int .u8 29, .int .u8 17, .int .u8 4, .int .u8 62, .int .u8 47, .int .u8 59, .int .u8 36, .int .u8 45, .int .u8 43, .int .u8 51, .int .u8 22, .int .u8 53, .int .u8 39, .int .u8 33, .int .u8 30, .int .u8 24, .int .u8 18, .int .u8 12, .int .u8 5, .int .u8 63, .int .u8 55, .int .u8 48, .int .u8 27, .int .u8 60, .int .u8 41, .int .u8 37, .int .u8 16, .int .u8 46, .int .u8 35, .int .u8 44, .int .u8 21, .int .u8 52, .int .u8 32, .int .u8 23, .int .u8 11, .int .u8 54, .int .u8 26, .int .u8 40, .int .u8 15, .int .u8 34, .int .u8 20, .int .u8 31, .int .u8 10, .int .u8 25, .int .u8 14, .int .u8 19, .int .u8 9, .int .u8 13, .int .u8 8, .int .u8 7, .int .u8 6])]
def glook (g : Nat) : List (Nat × List Value) → Option (List Value)
  | [] => none
  | (k, vs) :: r => if g = k then some vs else glook g r
def GOk (w : World) (S : Nat → Prop) : Prop := ∀ g vs, glook g glaid = some vs → S g ∧ CellsAt w g 0 vs
theorem GOk.ev {w w' : World} {S S' : Nat → Prop} (h : GOk w S) (hE : Ev w S w' S') : GOk w' S' := fun g vs hg => ⟨hE.mono g (h g vs hg).1, (h g vs hg).2.of_same (hE.same g (h g vs hg).1)⟩
structure SOk (w : World) (S : Nat → Prop) : Prop where
  lt : ∀ b, S b → b < w.heap.size
  g : GOk w S
def RepStore (w : World) (S : Nat → Prop) (σ : Store) : Prop := ∀ b o, sget b σ = some o → ¬ S b ∧ RepObj w S b o
def SLe (σ σ' : Store) : Prop := ∀ b o, sget b σ = some o → sget b σ' = some o
theorem SLe.refl (σ : Store) : SLe σ σ := fun _ _ h => h
theorem RepStore.le {w : World} {S : Nat → Prop} {σ σ' : Store} (h : RepStore w S σ') (hl : SLe σ σ') : RepStore w S σ := fun b o hb => h b o (hl b o hb)
structure Fr (w0 : World) (S0 F : Nat → Prop) (w : World) (S : Nat → Prop) (σ : Store) : Prop where
  os : w.os = w0.os
  tape : w.tape = w0.tape
  output : w.output = w0.output
  size : w0.heap.size ≤ w.heap.size
  shape : Shape w0 w
  block : ∀ b, b < w0.heap.size → ¬ F b → w.heap[b]? = w0.heap[b]?
  mono : ∀ b, S0 b → S b
  new : ∀ b, S b → S0 b ∨ F b ∨ w0.heap.size ≤ b
  dom : ∀ b, sdom σ b → F b ∨ w0.heap.size ≤ b
  lt : ∀ b, S b → b < w.heap.size
theorem Fr.refl {w : World} {S : Nat → Prop} (σ : Store) (h : ∀ b, S b → b < w.heap.size) : Fr w S (sdom σ) w S σ :=
  ⟨rfl, rfl, rfl, Nat.le_refl _, Shape.refl w, fun _ _ _ => rfl, fun _ h => h, fun _ h => .inl h, fun _ h => .inl h, h⟩
theorem Fr.ev {w0 w : World} {S0 F S : Nat → Prop} {σ : Store} (h : Fr w0 S0 F w S σ) (hS : ∀ b, S0 b → b < w0.heap.size ∧ ¬ F b) : Ev w0 S0 w S :=
  ⟨h.mono, fun b hb => h.block b (hS b hb).1 (hS b hb).2, h.shape⟩
theorem Fr.trans {w0 w1 w2 : World} {S0 F S1 S2 : Nat → Prop} {σ1 σ2 : Store} (h : Fr w0 S0 F w1 S1 σ1) (k : Fr w1 S1 (sdom σ1) w2 S2 σ2) : Fr w0 S0 F w2 S2 σ2 where
  os := k.os.trans h.os
  tape := k.tape.trans h.tape
  output := k.output.trans h.output
  size := Nat.le_trans h.size k.size
  shape := h.shape.trans k.shape
  block := fun b hb hF => by
    have hd : ¬ sdom σ1 b := fun hd => by rcases h.dom b hd with h1 | h1; exact hF h1; omega
    rw [k.block b (Nat.lt_of_lt_of_le hb h.size) hd, h.block b hb hF]
  mono := fun b hb => k.mono b (h.mono b hb)
  new := fun b hb => by
    rcases k.new b hb with h1 | h1 | h1
    · exact h.new b h1
    · exact .inr (h.dom b h1)
    · exact .inr (.inr (Nat.le_trans h.size h1))
  dom := fun b hb => by
    rcases k.dom b hb with h1 | h1
    · exact h.dom b h1
    · exact .inr (Nat.le_trans h.size h1)
  lt := k.lt
theorem Fr.le {w0 w : World} {S0 F S : Nat → Prop} {σ σ' : Store} (h : Fr w0 S0 F w S σ') (hl : SLe σ σ') : Fr w0 S0 F w S σ :=
  { h with dom := fun b hb => h.dom b (by
      unfold sdom at *
      cases hs : sget b σ with
      | none => exact absurd hs hb
      | some o => rw [hl b o hs]; simp) }
inductive AEnd where
  | ret (d : D)
  | panic (d : D)
def RepEnd (w : World) (S : Nat → Prop) : AEnd → Ending → Prop
  | .ret d, .returned v => Rep w S d v
  | .panic d, .panicked chain => ∃ v, chain = [{ v, recovered := false }] ∧ Rep w S d v
  | _, _ => False
def AC (P : Program) (f : FuncId) (args : List D) (σ : Store) (R : AEnd → Store → Prop) : Prop :=
  ∀ (w : World) (S : Nat → Prop) (vs : List Value), SOk w S → RepStore w S σ → RepL w S args vs →
    Calls P f vs.toArray w fun e w' => ∃ ae σ' S', R ae σ' ∧ RepEnd w' S' ae e ∧ RepStore w' S' σ' ∧ Fr w S (sdom σ) w' S' σ'
theorem AC.mono {P : Program} {f : FuncId} {args : List D} {σ : Store} {R R' : AEnd → Store → Prop} (h : AC P f args σ R) (hr : ∀ e σ', R e σ' → R' e σ') : AC P f args σ R' :=
  fun w S vs h1 h2 h3 => (h w S vs h1 h2 h3).mono fun _ _ ⟨ae, σ', S', q, r⟩ => ⟨ae, σ', S', hr _ _ q, r⟩
def eput (k : Nat) (d : D) (env : Env) : Env := (k, d) :: env
def eputo (k : Option Nat) (d : D) (env : Env) : Env := match k with | some k => eput k d env | none => env
theorem eget_eput (j k : Nat) (d : D) (env : Env) : eget j (eput k d env) = if j = k then d else eget j env := rfl
def RepEnv (w : World) (S : Nat → Prop) (env : Env) (tmps : Array Value) : Prop := ∀ k, Rep w S (eget k env) (tmps.getD k undef)
theorem Rep.v_inv {w : World} {S : Nat → Prop} {x y : Value} (h : Rep w S (.v x) y) : y = x := by cases h; rfl
theorem RepEnv.ev {w w' : World} {S S' : Nat → Prop} {env : Env} {tmps : Array Value} (h : RepEnv w S env tmps) (hE : Ev w S w' S') : RepEnv w' S' env tmps := fun k => (h k).ev hE
theorem RepEnv.put {w : World} {S : Nat → Prop} {env : Env} {tmps : Array Value} (h : RepEnv w S env tmps) {k : Nat} {d : D} {x : Value} (hd : Rep w S d x) (hk : k < tmps.size) :
    RepEnv w S (eput k d env) (tmps.setIfInBounds k x) := by
  intro j
  rw [eget_eput]
  by_cases hj : j = k
  · subst hj
    simp [Array.getD, hk, hd]
  · have := h j
    simp only [hj, if_false]
    have e : (tmps.setIfInBounds k x).getD j undef = tmps.getD j undef := by
      simp only [Array.getD_eq_getD_getElem?, Array.getElem?_setIfInBounds]
      rw [if_neg (fun h => hj h.symm)]
    rw [e]; exact this
def ELe (env env' : Env) : Prop := ∀ k, eget k env = .any ∨ eget k env = eget k env'
theorem ELe.refl (env : Env) : ELe env env := fun _ => .inr rfl
theorem RepEnv.le {w : World} {S : Nat → Prop} {env env' : Env} {tmps : Array Value} (h : RepEnv w S env' tmps) (hl : ELe env env') : RepEnv w S env tmps := fun k => by
  rcases hl k with h1 | h1
  · rw [h1]; exact .any
  · rw [h1]; exact h k
structure Slots where
  n : Nat
  lk : List (Nat × Value)
def SlotsOk (N : Slots) (tmps : Array Value) : Prop := tmps.size = N.n ∧ ∀ p ∈ N.lk, tmps.getD p.1 undef = p.2
structure Ctx (P : Program) (N : Slots) where
  b : Frame
  cs : List Frame
  ds : List Deferred
  w0 : World
  S0 : Nat → Prop
  F : Nat → Prop
  Z : Machine → Prop
  hZ : ∀ m m', Steps P m m' → Z m' → Z m
  hS : ∀ b, S0 b → b < w0.heap.size ∧ ¬ F b
  hG : GOk w0 S0
structure Sim {P : Program} {N : Slots} (C : Ctx P N) (env : Env) (σ : Store) (w : World) (S : Nat → Prop) (tmps : Array Value) : Prop where
  env : RepEnv w S env tmps
  store : RepStore w S σ
  fr : Fr C.w0 C.S0 C.F w S σ
  size : SlotsOk N tmps
theorem Sim.sok {P : Program} {N : Slots} {C : Ctx P N} {env : Env} {σ : Store} {w : World} {S : Nat → Prop} {tmps : Array Value} (h : Sim C env σ w S tmps) : SOk w S := ⟨h.fr.lt, C.hG.ev (h.fr.ev C.hS)⟩
def Gs {P : Program} {N : Slots} (C : Ctx P N) (todo : List Item) (env : Env) (σ : Store) : Prop :=
  ∀ (a : Act) (w : World) (S : Nat → Prop), a.defers = C.ds → Sim C env σ w S a.tmps → C.Z (lone (C.b.atR a todo) C.cs w)
def Pan {P : Program} {N : Slots} (C : Ctx P N) (d : D) (σ : Store) : Prop :=
  ∀ (a : Act) (todo : List Item) (w : World) (S : Nat → Prop) (v : Value), a.defers = C.ds → Rep w S d v → RepStore w S σ → Fr C.w0 C.S0 C.F w S σ → SlotsOk N a.tmps →
    C.Z (lone { C.b.atR a todo with mode := .panicking [{ v, recovered := false }] } C.cs w)
def cev (env : Env) : Operand → D
  | .tmp t => eget t env
  | .const (.bool b) => .v (.bool b)
  | _ => .any
section rules
variable {P : Program} {N : Slots} {C : Ctx P N} {k : List Item} {env : Env} {σ : Store}
theorem Gs.step {todo todo' : List Item} (hs : ∀ a w, step P (lone (C.b.atR a todo) C.cs w) = .next (lone (C.b.atR a todo') C.cs w)) (h : Gs C todo' env σ) : Gs C todo env σ :=
  fun a w S hd hsim => C.hZ _ _ (.one (hs a w)) (h a w S hd hsim)
theorem Gs.sq {x y : Code} (h : Gs C (.code x :: .code y :: k) env σ) : Gs C (.code (.seq x y) :: k) env σ := .step (fun _ _ => stepR_seq) h
theorem Gs.sk (h : Gs C k env σ) : Gs C (.code .skip :: k) env σ := .step (fun _ _ => stepR_skip) h
theorem Gs.label {l : Nat} (h : Gs C k env σ) : Gs C (.code (.label l) :: k) env σ := .step (fun _ _ => stepR_label) h
theorem Gs.ib {id : Nat} (h : Gs C k env σ) : Gs C (.inBlock id :: k) env σ := .step (fun _ _ => stepR_inBlock) h
theorem Gs.bk {id : Nat} {c : Code} (h : Gs C (.code c :: .inBlock id :: k) env σ) : Gs C (.code (.block id c) :: k) env σ := .step (fun _ _ => stepR_block) h
theorem Gs.loop {c : Code} (h : Gs C (.code c :: .inLoop c :: k) env σ) : Gs C (.code (.loop c) :: k) env σ := .step (fun _ _ => stepR_loop) h
theorem Gs.inLoop {c : Code} (h : Gs C (.code c :: .inLoop c :: k) env σ) : Gs C (.inLoop c :: k) env σ := .step (fun _ _ => stepR_inLoop) h
theorem Gs.exit {id : Nat} {k' : List Item} (he : exitTo id k = some k') (h : Gs C k' env σ) : Gs C (.code (.exit id) :: k) env σ := .step (fun _ _ => stepR_exit he) h
theorem Gs.le {todo : List Item} {env' : Env} {σ' : Store} (he : ELe env' env) (hs : SLe σ' σ) (h : Gs C todo env' σ') : Gs C todo env σ :=
  fun a w S hd hsim => h a w S hd ⟨hsim.env.le he, hsim.store.le hs, hsim.fr.le hs, hsim.size⟩
theorem Gs.cond {c : Operand} {x y : Code} {t : Bool} (hc : cev env c = .v (.bool t)) (h1 : t = true → Gs C (.code x :: k) env σ) (h2 : t = false → Gs C (.code y :: k) env σ) :
    Gs C (.code (.cond c x y) :: k) env σ := by
  intro a w S hd hsim
  have hev : a.eval c = .bool t := by
    cases c with
    | tmp i =>
      have h := hsim.env i
      simp only [cev] at hc
      rw [hc] at h
      exact h.v_inv
    | const x => cases x <;> simp_all [cev, Act.eval]
    | global g => simp [cev] at hc
    | func f => simp [cev] at hc
  refine C.hZ _ _ (.one (stepR_cond hev)) ?_
  cases t with
  | true => exact h1 rfl a w S hd hsim
  | false => exact h2 rfl a w S hd hsim
end rules
end Go.Ab
namespace Go.Ab
open Go
inductive ARes where
  | val (pre : Prop) (d : D)
  | nd (ok : Bool → Prop) (f : Bool → D)
  | upd (pre : Prop) (d : D) (σ : Store)
  | new (pre : Prop) (o : AObj) (mk : Nat → D)
  | app (pre : Prop) (b : Option Nat) (sz : Nat) (xs : List D)
  | enter (f : FuncId) (args : List D)
  | panic (d : D)
  | bad
def okV : Value → Bool
  | .agg cs => cs.toList.all Value.oneCell'
  | .tuple xs => xs.toList.all Value.oneCell'
  | _ => true
def ofV : Value → D
  | .agg cs => .agg (cs.toList.map .v)
  | .tuple xs => .tup (xs.toList.map .v)
  | x => .v x
def evg (g : Nat) : D := match glook g glaid with
  | some vs => if vs.all Value.oneCell' = true then .elt (vs.map .v) else .any
  | none => .v (.pointer (some ⟨g, 0, none⟩))
def ev (env : Env) : Operand → D
  | .tmp t => eget t env
  | .const x => if okV x = true then ofV x else .any
  | .global g => evg g
  | .func f => .clo (.func f) [] []
def purely {α : Type} (P : Program) : Sem α → Option α
  | .pure a => some a
  | .program k => purely P (k P)
  | .mark _ k => purely P k
  | _ => none
mutual
def toV : D → Option Value
  | .v x => some x
  | .agg cs => (toVs cs).map fun l => .agg l.toArray
  | .tup xs => (toVs xs).map fun l => .tuple l.toArray
  | .ifc t x => (toV x).map (.iface t)
  | _ => none
def toVs : List D → Option (List Value)
  | [] => some []
  | d :: r => (toV d).bind fun x => (toVs r).map (x :: ·)
end
def rsize (P : Program) (T : TypeId) : Option Nat := (P.info? T).map (·.size)
def rbytes (P : Program) (T : TypeId) : Option Nat := (P.info? T).map (·.bytes)
def rzero (P : Program) (T : TypeId) : Option Value := (P.info? T).bind (·.zero)
def ragg (P : Program) (T : TypeId) : Option Bool := (P.underlying T).map fun | .struct _ | .array _ _ => true | _ => false
def relem (P : Program) (T : TypeId) : Option TypeId := match P.underlying T with | some (.slice e) => some e | _ => none
def rarr (P : Program) (T : TypeId) : Option (Nat × Nat) := match P.underlying T with | some (.array n e) => (rsize P e).map fun k => (n, k) | _ => none
def rfield (P : Program) (T : TypeId) (f : Nat) : Option Field := match P.underlying T with | some (.struct fs) => fs[f]? | _ => none
def scal (P : Program) (s : Sem Value) : ARes :=
  match purely P s with
  | some r => if okV r = true then .val True (ofV r) else .bad
  | none => .bad
def getc (g : Bool) (n : Nat) (cs : List D) : D := if g = true then .agg (cs.take n) else cs.headD .any
def getcOk (g : Bool) (n : Nat) (cs : List D) : Prop := if g = true then n ≤ cs.length else 0 < cs.length
def putc (old : D) (o : Nat) (x : D) : D :=
  match old with
  | .agg cs => .agg (cs.take o ++ x.cells ++ cs.drop (o + x.cells.length))
  | _ => x
def aPick (c a b : D) : ARes :=
  match c with
  | .v (.bool t) => .val True (if t = true then a else b)
  | _ => .bad
def aAlloc (P : Program) (T : TypeId) : ARes :=
  match rsize P T, rzero P T with
  | some n, some z => .new (okV z = true ∧ (ofV z).cells.length = n ∧ (ofV z).plain = true) (.arr n [ofV z]) (fun b => .ptr b n 0 0)
  | _, _ => .bad
def aBox (P : Program) (T : TypeId) (d : D) : ARes :=
  match rsize P T with
  | some n => .new (d.cells.length = n ∧ d.plain = true) (.arr n [d]) (fun b => .ptr b n 0 0)
  | none => .bad
def aLoad (P : Program) (σ : Store) (T : TypeId) (d : D) : ARes :=
  match rsize P T, ragg P T, d with
  | some n, some g, .elt cs => .val (getcOk g n cs) (getc g n cs)
  | some n, some g, .ptr b sz i o =>
    match sget b σ with
    | some (.arr sz' xs) => .val (sz' = sz ∧ i < xs.length ∧ getcOk g n ((xs.getD i .any).cells.drop o)) (getc g n ((xs.getD i .any).cells.drop o))
    | _ => .bad
  | _, _, _ => .bad
def aStore (P : Program) (σ : Store) (T : TypeId) (d x : D) : ARes :=
  match rsize P T, d with
  | some n, .ptr b sz i o =>
    match sget b σ with
    | some (.arr sz' xs) =>
      .upd (sz' = sz ∧ i < xs.length ∧ x.cells.length = n ∧ x.plain = true ∧ o + n ≤ sz ∧ ((∃ cs, xs.getD i .any = .agg cs) ∨ (n = sz ∧ o = 0))) (.tup [])
        (sset b (.arr sz (xs.set i (putc (xs.getD i .any) o x))) σ)
    | _ => .bad
  | _, _ => .bad
def aNilCheck : D → ARes
  | .ptr b sz i o => .val True (.ptr b sz i o)
  | .elt cs => .val True (.elt cs)
  | .clo (.func f) a c => .val True (.clo (.func f) a c)
  | .clo (.yield l) a c => .val True (.clo (.yield l) a c)
  | .ifc t x => .val True (.ifc t x)
  | .v (.pointer (some a)) => .val True (.v (.pointer (some a)))
  | _ => .bad
def aEq (d : Option TypeDesc) (x y : D) : Option Bool :=
  match d, x, y with
  | some (.pointer _), .ptr _ _ _ _, .v (.pointer none) | some (.pointer _), .v (.pointer none), .ptr _ _ _ _ => some false
  | some (.pointer _), .elt _, .v (.pointer none) | some (.pointer _), .v (.pointer none), .elt _ => some false
  | some (.slice _), .own (some _) _ _, .v (.slice none 0 0) => some false
  | some (.map _ _), .map _, .v (.map none) => some false
  | some (.func _ _ _), .clo _ _ _, .v .nilFunc => some false
  | some (.interface _), .ifc _ _, .v .nilIface => some false
  | _, _, _ => none
def aNil (d : Option TypeDesc) (x y : D) : Option (Bool → Prop) :=
  match d, x, y with
  | some (.slice _), .slc xs, .v (.slice none 0 0) => some fun t => xs ≠ [] → t = false
  | some (.slice _), .own none _ _, .v (.slice none 0 0) => some fun _ => True
  | _, _, _ => none
def isIfc : Option TypeDesc → Bool
  | some (.interface _) => true
  | _ => false
def ifcNil (d : Option TypeDesc) (x y : D) : Bool :=
  match x, y with
  | .ifc _ _, .v .nilIface => isIfc d
  | _, _ => false
def aBin0 (P : Program) (op : BinOp) (T : TypeId) (xo yo : Operand) (x y : D) : ARes :=
  match toV x, toV y with
  | some a, some b => scal P (do eqGuard op T xo yo a b; binOp op T a b)
  | _, _ =>
    match op, aEq (P.underlying T) x y with
    | .eql, some t => .val True (.v (.bool t))
    | .neq, some t => .val True (.v (.bool !t))
    | _, _ =>
      match op, aNil (P.underlying T) x y with
      | .eql, some ok => .nd ok fun t => .v (.bool t)
      | .neq, some ok => .nd ok fun t => .v (.bool !t)
      | _, _ => .bad
def aBin (P : Program) (op : BinOp) (T : TypeId) (xo yo : Operand) (x y : D) : ARes :=
  match ifcNil (P.underlying T) x y, op with
  | true, .eql => .val True (.v (.bool false))
  | true, .neq => .val True (.v (.bool true))
  | _, _ => aBin0 P op T xo yo x y
def aUn (P : Program) (op : UnOp) (x : D) : ARes :=
  match toV x with
  | some a => scal P (Op.unary op a)
  | none => .bad
def byteOf : D → UInt8
  | .v (.int .u8 n) => UInt8.ofNat n.toNat
  | _ => 0
def isByte : D → Bool
  | .v (.int .u8 n) => decide (0 ≤ n ∧ n < 256)
  | _ => false
def bD (c : UInt8) : D := .v (.int .u8 (c.toNat : Int))
def bytesOf (xs : List D) : ByteArray := ⟨(xs.map byteOf).toArray⟩
def isByteSlice (P : Program) (T : TypeId) : Bool :=
  match relem P T with
  | some e => match P.underlying e with | some (.int .u8) => true | _ => false
  | none => false
def isStr (P : Program) (T : TypeId) : Bool := match P.underlying T with | some .string => true | _ => false
def oget (sz : Nat) (ob : Option Nat) (σ : Store) : Option (List D) :=
  match ob with
  | none => some []
  | some b => match sget b σ with | some (.arr s xs) => if s = sz then some xs else none | _ => none
def aConv (P : Program) (σ : Store) (src dst : TypeId) (x : D) : ARes :=
  match x with
  | .slc xs => .val (isByteSlice P src = true ∧ isStr P dst = true ∧ xs.all isByte = true) (.v (.string (bytesOf xs)))
  | .own ob _ n =>
    match oget 1 ob σ with
    | some xs => .val (isByteSlice P src = true ∧ isStr P dst = true ∧ xs.all isByte = true ∧ n ≤ xs.length) (.v (.string (bytesOf (xs.take n))))
    | none => .bad
  | .win b sz off n =>
    match oget 1 (some b) σ with
    | some xs => .val (isByteSlice P src = true ∧ isStr P dst = true ∧ xs.all isByte = true ∧ off + n ≤ xs.length ∧ sz = 1) (.v (.string (bytesOf ((xs.drop off).take n))))
    | none => .bad
  | .v (.string s) =>
    if isByteSlice P dst = true ∧ isStr P src = true then .new (s.size < 2 ^ 46) (.arr 1 (s.data.toList.map bD)) (fun b => .own (some b) 1 s.size)
    else scal P (convert src dst (.string s))
  | .v y => scal P (convert src dst y)
  | _ => .bad
def ixOf : D → Option Int
  | .v (.int _ n) => some n
  | _ => none
def aIndexAddr (P : Program) (T : TypeId) (x ix : D) : ARes :=
  match relem P T, ixOf ix with
  | some e, some i =>
    match rsize P e, x with
    | some n, .slc xs => .val (0 ≤ i ∧ i < xs.length ∧ (xs.getD i.toNat .any).cells.length = n) (.elt (xs.getD i.toNat .any).cells)
    | some n, .own (some b) sz len => .val (0 ≤ i ∧ i < len ∧ sz = n) (.ptr b sz i.toNat 0)
    | some n, .win b sz off len => .val (0 ≤ i ∧ i < len ∧ sz = n) (.ptr b sz (off + i.toNat) 0)
    | _, _ => .bad
  | none, some i =>
    match rarr P T, x with
    | some (len, n), .ptr b sz j 0 => .val (0 ≤ i ∧ i < len ∧ sz = n) (.ptr b sz (j + i.toNat) 0)
    | some (len, n), .elt cs => .val (0 ≤ i ∧ i < len ∧ len * n ≤ cs.length) (.elt (cs.drop (i.toNat * n)))
    | _, _ => .bad
  | _, _ => .bad
def aIndex (P : Program) (T : TypeId) (x ix : D) : ARes :=
  match x, ixOf ix with
  | .v (.string s), some i => .val (isStr P T = true ∧ 0 ≤ i ∧ i < s.size) (bD (s.data.toList.getD i.toNat 0))
  | _, _ => .bad
def optIx (d : Option D) (z : Int) : Option Int := match d with | some d => ixOf d | none => some z
def aSlice (P : Program) (T : TypeId) (x : D) (lo hi mx : Option D) : ARes :=
  match x, mx with
  | .v (.string s), none =>
    match optIx lo 0, optIx hi s.size with
    | some l, some h => .val (isStr P T = true ∧ 0 ≤ l ∧ l ≤ h ∧ h ≤ s.size) (.v (.string (s.extract l.toNat h.toNat)))
    | _, _ => .bad
  | .slc xs, none =>
    match optIx lo 0, optIx hi xs.length, (relem P T).bind (rsize P) with
    | some l, some h, some n => .val (0 ≤ l ∧ l ≤ h ∧ h ≤ xs.length ∧ (∀ x ∈ xs, x.cells.length = n)) (.slc ((xs.take h.toNat).drop l.toNat))
    | _, _, _ => .bad
  | .own b sz n, none =>
    match optIx lo 0, optIx hi n, (relem P T).bind (rsize P) with
    | some l, some h, some k =>
      match lo, b with
      | some _, some b => .val (0 ≤ l ∧ l ≤ h ∧ h ≤ n ∧ k = sz) (.win b sz l.toNat (h - l).toNat)
      | _, _ => .val (l = 0 ∧ 0 ≤ h ∧ h ≤ n) (.own b sz h.toNat)
    | _, _, _ => .bad
  | .win b sz off n, none =>
    match optIx lo 0, optIx hi n, (relem P T).bind (rsize P) with
    | some l, some h, some k => .val (0 ≤ l ∧ l ≤ h ∧ h ≤ n ∧ k = sz) (.win b sz (off + l.toNat) (h - l).toNat)
    | _, _, _ => .bad
  | .v (.slice none 0 0), none =>
    match optIx lo 0, optIx hi 0, (relem P T).bind (rsize P) with
    | some l, some h, some _ => .val (l = 0 ∧ h = 0) (.v (.slice none 0 0))
    | _, _, _ => .bad
  | .slc _, some m | .own _ _ _, some m | .v (.slice none 0 0), some m =>
    match optIx lo 0, optIx hi 1, ixOf m, (relem P T).bind (rsize P) with
    | some l, some h, some m, some n => .val (l = 0 ∧ h = 0 ∧ m = 0) (.own none n 0)
    | _, _, _, _ => .bad
  | _, _ => .bad
def aSliceArr (P : Program) (σ : Store) (T : TypeId) (b sz j o : Nat) (lo hi mx : Option D) : ARes :=
  match o, mx, rarr P T with
  | 0, none, some (len, n) =>
    match optIx lo 0, optIx hi len, sget b σ with
    | some l, some h, some (.arr sz' xs) => .val (0 ≤ l ∧ l ≤ h ∧ h ≤ len ∧ sz = n ∧ sz' = n ∧ j + len ≤ xs.length ∧ len < 2 ^ 62) (.win b sz (j + l.toNat) (h - l).toNat)
    | _, _, _ => .bad
  | _, _, _ => .bad
def aSliceS (P : Program) (σ : Store) (T : TypeId) (x : D) (lo hi mx : Option D) : ARes :=
  match x with
  | .ptr b sz j o => aSliceArr P σ T b sz j o lo hi mx
  | x => aSlice P T x lo hi mx
def aFieldAddr (P : Program) (T : TypeId) (x : D) (f : Nat) : ARes :=
  match rfield P T f with
  | some F =>
    match rsize P F.type, x with
    | some n, .ptr b sz i o => .val (0 < n) (.ptr b sz i (o + F.offset))
    | some n, .elt cs => .val (0 < n ∧ F.offset ≤ cs.length) (.elt (cs.drop F.offset))
    | _, _ => .bad
  | none => .bad
def aField (P : Program) (T : TypeId) (x : D) (f : Nat) : ARes :=
  match rfield P T f with
  | some F =>
    match rsize P F.type, ragg P F.type, x with
    | some n, some g, .agg cs => .val (getcOk g n (cs.drop F.offset)) (getc g n (cs.drop F.offset))
    | _, _, _ => .bad
  | none => .bad
def aFill (P : Program) (T : TypeId) : List (Nat × D) → List D → Option (List D)
  | [], cs => some cs
  | (f, x) :: r, cs =>
    match rfield P T f with
    | some F => if rsize P F.type = some x.cells.length ∧ F.offset + x.cells.length ≤ cs.length ∧ x.plain = true then aFill P T r (cs.take F.offset ++ x.cells ++ cs.drop (F.offset + x.cells.length)) else none
    | none => none
def placesOk (P : Program) (T : TypeId) : Bool :=
  match P.underlying T with
  | some (.struct fs) => (fs.toList.mapM (fun f => (P.info? f.type).map fun i => (f.offset, i.size))).isSome
  | _ => false
def aBuild (P : Program) (T : TypeId) (parts : List (Nat × D)) : ARes :=
  match rzero P T with
  | some z =>
    if placesOk P T = true ∧ okV z = true then
      match ofV z with
      | .agg cs => match aFill P T parts cs with | some cs => .val True (.agg cs) | none => .bad
      | _ => .bad
    else .bad
  | none => .bad
def aFillSlice (n : Nat) : List (Nat × D) → List D → Option (List D)
  | [], xs => some xs
  | (i, x) :: r, xs => if x.cells.length = n ∧ x.plain = true ∧ i < xs.length then aFillSlice n r (xs.set i x) else none
def aBuildSlice (P : Program) (T : TypeId) (len : Nat) (parts : List (Nat × D)) : ARes :=
  match relem P T with
  | some e =>
    match rsize P e, rzero P e with
    | some n, some z =>
      match aFillSlice n parts (List.replicate len (ofV z)) with
      | some xs => .new (okV z = true ∧ (ofV z).cells.length = n ∧ (ofV z).plain = true ∧ len * n ≤ 2 ^ 24 ∧ len ≤ 2 ^ 24) (.arr n xs) (fun b => .own (some b) n len)
      | none => .bad
    | _, _ => .bad
  | none => .bad
def aMakeSlice (P : Program) (T : TypeId) (l c : D) : ARes :=
  match relem P T, ixOf l, ixOf c with
  | some e, some l, some c =>
    match rsize P e, rzero P e, rbytes P e with
    | some n, some z, some by_ => .new (okV z = true ∧ (ofV z).cells.length = n ∧ (ofV z).plain = true ∧ 0 ≤ l ∧ l ≤ c ∧ c < 2 ^ 40 ∧ by_ * c ≤ 2 ^ 48) (.arr n (List.replicate l.toNat (ofV z))) (fun b => .own (some b) n l.toNat)
    | _, _, _ => .bad
  | _, _, _ => .bad
def keyEq : Value → Value → Bool
  | .int k a, .int k' b => k == k' && a == b
  | .string a, .string b => a == b
  | .bool a, .bool b => a == b
  | _, _ => false
def keyLike (d : TypeDesc) : Value → Value → Bool
  | .int k _, .int k' _ => (match d with | .int _ => true | _ => false) && k == k'
  | .string _, .string _ => (match d with | .string => true | _ => false)
  | .bool _, .bool _ => (match d with | .bool => true | _ => false)
  | _, _ => false
def mfind (k : Value) : List (Value × D) → Option D
  | [] => none
  | (j, d) :: r => if keyEq k j = true then some d else mfind k r
def mset (k : Value) (x : D) : List (Value × D) → List (Value × D)
  | [] => [(k, x)]
  | (j, d) :: r => if keyEq k j = true then (k, x) :: r else (j, d) :: mset k x r
def mdel (k : Value) : List (Value × D) → List (Value × D)
  | [] => []
  | (j, d) :: r => if keyEq k j = true then r else (j, d) :: mdel k r
def rmap (P : Program) (T : TypeId) : Option (TypeDesc × TypeId) :=
  match P.underlying T with
  | some (.map k e) => match P.underlying k with | some d => some (d, e) | none => none
  | _ => none
def aFound (d : TypeDesc) (z : Value) (ok : Bool) (k : Value) (es : List (Value × D)) : ARes :=
  .val (okV z = true ∧ keyLike d k k = true ∧ ∀ e ∈ es, keyLike d k e.1 = true)
    (if ok = true then .tup [(mfind k es).getD (ofV z), .v (.bool (mfind k es).isSome)] else (mfind k es).getD (ofV z))
def aLookup (P : Program) (σ : Store) (T : TypeId) (m k : D) (ok : Bool) : ARes :=
  match rmap P T, toV k with
  | some (d, e), some k =>
    match rzero P e, m with
    | some z, .map b => match sget b σ with | some (.mp es) => aFound d z ok k es | _ => .bad
    | some z, .v (.map none) => aFound d z ok k []
    | _, _ => .bad
  | _, _ => .bad
def aMapUpdate (P : Program) (σ : Store) (T : TypeId) (m k x : D) : ARes :=
  match rmap P T, toV k, m with
  | some (d, _), some k, .map b =>
    match sget b σ with
    | some (.mp es) => .upd (keyLike d k k = true ∧ ∀ e ∈ es, keyLike d k e.1 = true) (.tup []) (sset b (.mp (mset k x es)) σ)
    | _ => .bad
  | _, _, _ => .bad
def aDelete (P : Program) (σ : Store) (T : TypeId) (m k : D) : ARes :=
  match rmap P T, toV k, m with
  | some (d, _), some k, .map b =>
    match sget b σ with
    | some (.mp es) => .upd (keyLike d k k = true ∧ ∀ e ∈ es, keyLike d k e.1 = true) (.tup []) (sset b (.mp (mdel k es)) σ)
    | _ => .bad
  | _, _, _ => .bad
def aTA (P : Program) (x : D) (asserted : TypeId) (ok : Bool) : ARes :=
  match P.underlying asserted with
  | some (.interface _) => .bad
  | some _ =>
    match x, rzero P asserted, ok with
    | .ifc t y, some z, true => if t = asserted then .val True (.tup [y, .v (.bool true)]) else .val (okV z = true) (.tup [ofV z, .v (.bool false)])
    | .v .nilIface, some z, true => .val (okV z = true) (.tup [ofV z, .v (.bool false)])
    | .ifc t y, _, false => if t = asserted then .val True y else .bad
    | _, _, _ => .bad
  | none => .bad
def aRange (P : Program) (T : TypeId) (x : D) : ARes :=
  match P.underlying T, x with
  | some .string, .v (.string s) => .new True (.sit s 0) (fun b => .ptr b 0 0 0)
  | _, _ => .bad
def aNext (σ : Store) (it : D) (isString : Bool) : ARes :=
  match it, isString with
  | .ptr b 0 0 0, true =>
    match sget b σ with
    | some (.sit s p) =>
      if p < s.size then .upd True (.tup [.v (.bool true), .v (.int .i64 p), .v (.int .i32 (Utf8.decode s p).1)]) (sset b (.sit s (p + (Utf8.decode s p).2)) σ)
      else .val True (.tup [.v (.bool false)])
    | _ => .bad
  | _, _ => .bad
def aLen (P : Program) (σ : Store) (T : TypeId) (x : D) : ARes :=
  match x with
  | .slc xs => .val ((relem P T).isSome = true) (.v (.int .i64 xs.length))
  | .own _ _ n => .val ((relem P T).isSome = true) (.v (.int .i64 n))
  | .win _ _ _ n => .val ((relem P T).isSome = true) (.v (.int .i64 n))
  | .v (.string s) => .val (isStr P T = true) (.v (.int .i64 s.size))
  | .v (.slice none 0 0) => .val ((relem P T).isSome = true) (.v (.int .i64 0))
  | .map b => match sget b σ with | some (.mp es) => .val ((rmap P T).isSome = true) (.v (.int .i64 es.length)) | _ => .bad
  | .v (.map none) => .val ((rmap P T).isSome = true) (.v (.int .i64 0))
  | _ => .bad
def srcOf (σ : Store) : D → Option (List D)
  | .slc xs => some xs
  | .own ob sz n => match oget sz ob σ with | some xs => if n ≤ xs.length then some (xs.take n) else none | none => none
  | .win b sz off n => match oget sz (some b) σ with | some xs => if off + n ≤ xs.length then some ((xs.drop off).take n) else none | none => none
  | .v (.slice none 0 0) => some []
  | .v (.string s) => some (s.data.toList.map bD)
  | _ => none
def cellsOf (b : Option Nat) (sz : Nat) (xs : List D) : Store := match b with | some b => [(b, .arr sz xs)] | none => []
def aAppend (P : Program) (σ : Store) (T T2 : TypeId) (s x : D) : ARes :=
  match relem P T, srcOf σ x with
  | some e, some ys =>
    match rsize P e, rbytes P e, rzero P e with
    | some n, some by_, some z =>
      let pre (old : List D) : Prop := (P.underlying T2 = P.underlying T ∨ isStr P T2 = true) ∧ okV z = true ∧ (ofV z).cells.length = n ∧ (∀ y ∈ ys, y.cells.length = n ∧ y.plain = true) ∧ (old.length + ys.length) * by_ ≤ 2 ^ 46 ∧ old.length + ys.length < 2 ^ 46
      match s with
      | .v (.slice none 0 0) => .app (pre []) none n ys
      | .own ob sz k =>
        match oget sz ob σ with
        | some xs => .app (sz = n ∧ k ≤ xs.length ∧ pre (xs.take k)) ob n (xs.take k ++ ys)
        | none => .bad
      | _ => .bad
    | _, _, _ => .bad
  | _, _ => .bad
def aClear (P : Program) (σ : Store) (T : TypeId) (x : D) : ARes :=
  match relem P T with
  | some e =>
    match rsize P e, rzero P e, x with
    | some n, some z, .own none _ _ => .upd True (.tup []) σ
    | some n, some z, .own (some b) sz k =>
      match sget b σ with
      | some (.arr sz' xs) => .upd (sz' = n ∧ sz = n ∧ k ≤ xs.length ∧ okV z = true ∧ (ofV z).cells.length = n ∧ (ofV z).plain = true) (.tup []) (sset b (.arr n (List.replicate k (ofV z) ++ xs.drop k)) σ)
      | _ => .bad
    | some n, some z, .win b sz off k =>
      match sget b σ with
      | some (.arr sz' xs) => .upd (sz' = n ∧ sz = n ∧ off + k ≤ xs.length ∧ okV z = true ∧ (ofV z).cells.length = n ∧ (ofV z).plain = true) (.tup []) (sset b (.arr n (xs.take off ++ List.replicate k (ofV z) ++ xs.drop (off + k))) σ)
      | _ => .bad
    | _, _, _ => .bad
  | none => .bad
def aBuiltin (P : Program) (σ : Store) (b : Builtin) (ts : Array TypeId) (args : List D) : ARes :=
  match b, args with
  | .len, [x] => match ts[0]? with | some T => aLen P σ T x | none => .bad
  | .append, [s, x] => match ts[0]?, ts[1]? with | some T, some T2 => aAppend P σ T T2 s x | _, _ => .bad
  | .delete, [m, k] => match ts[0]? with | some T => aDelete P σ T m k | none => .bad
  | .max, [x, y] => match toV x, toV y with | some a, some b => scal P (Builtin.max_ #[] 0 #[a, b]) | _, _ => .bad
  | .min, [x, y] => match toV x, toV y with | some a, some b => scal P (Builtin.min_ #[] 0 #[a, b]) | _, _ => .bad
  | .panic, [.ifc t x] => .panic (.ifc t x)
  | .clear, [x] => match ts[0]? with | some T => aClear P σ T x | none => .bad
  | _, _ => .bad
def aExtract (x : D) (i : Nat) : ARes :=
  match x with
  | .tup xs => match xs[i]? with | some d => .val True d | none => .bad
  | _ => .bad
def aMakeChan (P : Program) (T : TypeId) (x : D) : ARes :=
  match P.underlying T, x with
  | some (.chan _ e), .v (.int .i64 n) =>
    match rbytes P e with
    | some bt => .new (0 ≤ n ∧ n < 2 ^ 40 ∧ (bt : Int) * n ≤ 2 ^ 46) (.ch n.toNat []) (fun b => .v (.chan (some b)))
    | none => .bad
  | _, _ => .bad
def aop (P : Program) (env : Env) (σ : Store) : Op → ARes
  | .move x | .assign x => .val True (ev env x)
  | .pick c a b => aPick (ev env c) (ev env a) (ev env b)
  | .alloc T => aAlloc P T
  | .box T x => aBox P T (ev env x)
  | .build T parts => aBuild P T (parts.toList.map fun p => (p.1, ev env p.2))
  | .buildSlice T len parts => aBuildSlice P T len (parts.toList.map fun p => (p.1, ev env p.2))
  | .load T a => aLoad P σ T (ev env a)
  | .store T a x => aStore P σ T (ev env a) (ev env x)
  | .nilCheck x => aNilCheck (ev env x)
  | .binOp op T x y _ => aBin P op T x y (ev env x) (ev env y)
  | .unOp op _ x => aUn P op (ev env x)
  | .convert src dst x => aConv P σ src dst (ev env x)
  | .makeInterface T x => .val (match P.underlying T with | some (.interface _) => False | some _ => True | none => False) (.ifc T (ev env x))
  | .makeFunc fn first captured => .val True (.clo fn (first.toList.map (ev env)) (captured.toList.map (ev env)))
  | .makeMap T none => .new ((rmap P T).isSome = true) (.mp []) (fun b => .map b)
  | .makeChan T x => aMakeChan P T (ev env x)
  | .makeSlice T l c => aMakeSlice P T (ev env l) (ev env c)
  | .slice T x lo hi mx => aSliceS P σ T (ev env x) (lo.map (ev env)) (hi.map (ev env)) (mx.map (ev env))
  | .fieldAddr T x f => aFieldAddr P T (ev env x) f
  | .field T x f => aField P T (ev env x) f
  | .indexAddr T x ix => aIndexAddr P T (ev env x) (ev env ix)
  | .index T x ix => aIndex P T (ev env x) (ev env ix)
  | .lookup T x ix ok => aLookup P σ T (ev env x) (ev env ix) ok
  | .mapUpdate T m k x | .insert T m k x => aMapUpdate P σ T (ev env m) (ev env k) (ev env x)
  | .range T x => aRange P T (ev env x)
  | .next it isString => aNext σ (ev env it) isString
  | .typeAssert x _ T ok => aTA P (ev env x) T ok
  | .extract t i => aExtract (ev env t) i
  | .panic x => match ev env x with | .ifc t d => .panic (.ifc t d) | _ => .bad
  | .call c =>
    match c.callee with
    | .builtin b => aBuiltin P σ b c.argTypes (c.args.toList.map (ev env))
    | .value f =>
      match ev env f with
      | .clo (.func g) first caps => .enter g (first ++ c.args.toList.map (ev env) ++ caps)
      | _ => .bad
    | .invoke _ _ => .bad
  | _ => .bad
def VCall (P : Program) (Qp : D → Store → Prop) (next : Env → Store → Prop) (dst : Option Nat) (env : Env) (σ : Store) (f : FuncId) (args : List D) : Prop :=
  ∃ g, (∀ args w, (callFunc f args).run P w = .ok (.enter g args) w) ∧ AC P g args σ fun e σ' => match e with | .ret d => next (eputo dst d env) σ' | .panic d => Qp d σ'
def Fresh (ob : Option Nat) (σ : Store) : Prop := ∀ c, ob = some c → sget c σ = none
def vcRes (P : Program) (Qp : D → Store → Prop) (next : Env → Store → Prop) (dst : Option Nat) (env : Env) (σ : Store) : ARes → Prop
  | .val pre d => pre ∧ next (eputo dst d env) σ
  | .nd ok f => ∀ t, ok t → next (eputo dst (f t) env) σ
  | .upd pre d σ' => pre ∧ next (eputo dst d env) σ'
  | .new pre o mk => pre ∧ ∀ b, sget b σ = none → next (eputo dst (mk b) env) ((b, o) :: σ)
  | .app pre b sz xs => pre ∧ ∀ ob : Option Nat, (ob = none → xs = []) → Fresh ob (sdelo b σ) → next (eputo dst (.own ob sz xs.length) env) (cellsOf ob sz xs ++ sdelo b σ)
  | .enter f args => VCall P Qp next dst env σ f args
  | .panic d => Qp d σ
  | .bad => False
section base
variable {w : World} {S : Nat → Prop}
theorem purely_run {α : Type} {P : Program} : ∀ (s : Sem α) {r : α}, purely P s = some r → ∀ w, s.run P w = .ok r w
  | .pure a, r, h, w => by simp only [purely, Option.some.injEq] at h; subst h; rfl
  | .program k, r, h, w => by simp only [purely] at h; simp only [Sem.run]; exact purely_run (k P) h w
  | .mark m k, r, h, w => by simp only [purely] at h; simp only [Sem.run]; exact purely_run k h w
  | .load .., r, h, w | .store .., r, h, w | .new .., r, h, w | .shape .., r, h, w | .freeze .., r, h, w | .frozen .., r, h, w | .getObj .., r, h, w | .setObj .., r, h, w
  | .choose .., r, h, w | .sys .., r, h, w | .halt .., r, h, w => by simp [purely] at h
theorem repL_v : ∀ (xs : List Value), xs.all Value.oneCell' = true → RepL w S (xs.map .v) xs
  | [], _ => .nil
  | x :: xs, h => by
    simp only [List.all_cons, Bool.and_eq_true] at h
    exact .cons (.v h.1) (repL_v xs h.2)
theorem rep_ofV {x : Value} (h : okV x = true) : Rep w S (ofV x) x := by
  cases x with
  | agg cs => exact .agg (vals := cs.toList) (repL_v _ h)
  | tuple xs => exact .tup (vals := xs.toList) (repL_v _ h)
  | _ => exact .v rfl
mutual
theorem toV_rep : ∀ {d : D} {x y : Value}, toV d = some x → Rep w S d y → y = x
  | .v z, x, y, h, hr => by simp only [toV, Option.some.injEq] at h; subst h; exact hr.v_inv
  | .agg cs, x, y, h, hr => by
    cases hr with
    | agg hr =>
      simp only [toV, Option.map_eq_some_iff] at h
      obtain ⟨l, hl, rfl⟩ := h
      rw [toVs_rep hl hr]
  | .tup xs, x, y, h, hr => by
    cases hr with
    | tup hr =>
      simp only [toV, Option.map_eq_some_iff] at h
      obtain ⟨l, hl, rfl⟩ := h
      rw [toVs_rep hl hr]
  | .ifc t z, x, y, h, hr => by
    cases hr with
    | ifc hr =>
      simp only [toV, Option.map_eq_some_iff] at h
      obtain ⟨l, hl, rfl⟩ := h
      rw [toV_rep hl hr]
  | .any, x, y, h, hr => by simp [toV] at h
  | .ptr .., x, y, h, hr => by simp [toV] at h
  | .elt .., x, y, h, hr => by simp [toV] at h
  | .slc .., x, y, h, hr => by simp [toV] at h
  | .own .., x, y, h, hr => by simp [toV] at h
  | .map .., x, y, h, hr => by simp [toV] at h
  | .clo .., x, y, h, hr => by simp [toV] at h
theorem toVs_rep : ∀ {ds : List D} {xs ys : List Value}, toVs ds = some xs → RepL w S ds ys → ys = xs
  | [], xs, ys, h, hr => by simp only [toVs, Option.some.injEq] at h; subst h; exact hr.nil_inv
  | d :: ds, xs, ys, h, hr => by
    cases hr with
    | cons hd ht =>
      simp only [toVs, Option.bind_eq_some_iff, Option.map_eq_some_iff] at h
      obtain ⟨x, hx, l, hl, rfl⟩ := h
      rw [toV_rep hx hd, toVs_rep hl ht]
end
end base
section steps
variable {P : Program} {N : Slots} {C : Ctx P N} {env : Env} {σ : Store} {a : Act} {w : World} {S : Nat → Prop} {o : Oper}
variable {Qp : D → Store → Prop} {next : Env → Store → Prop}
theorem ev_rep (h : Sim C env σ w S a.tmps) (x : Operand) : Rep w S (ev env x) (a.eval x) := by
  cases x with
  | tmp t => exact h.env t
  | const v =>
    simp only [ev, Act.eval]
    split
    · rename_i hv; exact rep_ofV hv
    · exact .any
  | global g =>
    simp only [ev, evg, Act.eval]
    split
    · rename_i vs hg
      split
      · rename_i ho
        obtain ⟨h1, h2⟩ := h.sok.g g vs hg
        exact .elt h1 (repL_v vs ho) h2
      · exact .any
    · exact .v rfl
  | func f => exact .clo .nil .nil
theorem ev_reps (h : Sim C env σ w S a.tmps) : ∀ (xs : List Operand), RepL w S (xs.map (ev env)) (xs.map a.eval)
  | [] => .nil
  | x :: xs => .cons (ev_rep h x) (ev_reps h xs)
theorem sim_ev (h : Sim C env σ w S a.tmps) {w' : World} {S' : Nat → Prop} {σ' : Store} (hf : Fr w S (sdom σ) w' S' σ') : Ev w S w' S' :=
  hf.ev fun b hb => ⟨h.fr.lt b hb, fun hd => by
    cases hs : sget b σ with
    | none => exact hd hs
    | some o => exact (h.store b o hs).1 hb⟩
def NX (C : Ctx P N) (next : Env → Store → Prop) (a : Act) (w : World) : Prop :=
  a.defers = C.ds ∧ ∃ env σ S, next env σ ∧ Sim C env σ w S a.tmps
def QX (C : Ctx P N) (K : Env → Store → Prop) (Qp : D → Store → Prop) : Exit → Act → World → Prop
  | .normal, a, w => NX C K a w
  | .panic chain, a, w => a.defers = C.ds ∧ SlotsOk N a.tmps ∧ ∃ d σ S v, chain = [{ v, recovered := false }] ∧ Qp d σ ∧ Rep w S d v ∧ RepStore w S σ ∧ Fr C.w0 C.S0 C.F w S σ
  | _, _, _ => False
def dstOk (N : Slots) (dst : Option Nat) : Prop := ∀ k, dst = some k → k < N.n ∧ ∀ p ∈ N.lk, p.1 ≠ k
theorem sim_put (h : Sim C env σ w S a.tmps) {dst : Option Nat} (hN : dstOk N dst) {w' : World} {S' : Nat → Prop} {σ' : Store} {d : D} {v : Value} (hd : Rep w' S' d v) (hst : RepStore w' S' σ')
    (hf : Fr w S (sdom σ) w' S' σ') : Sim C (eputo dst d env) σ' w' S' (a.put dst v).tmps := by
  have hE := sim_ev h hf
  refine ⟨?_, hst, h.fr.trans hf, ?_⟩
  · cases dst with
    | none => exact h.env.ev hE
    | some k => exact (h.env.ev hE).put hd (by rw [h.size.1]; exact (hN k rfl).1)
  · cases dst with
    | none => exact h.size
    | some k =>
      refine ⟨by simpa [Act.put] using h.size.1, fun p hp => ?_⟩
      have hk := (hN k rfl).2 p hp
      rw [← h.size.2 p hp]
      show (a.tmps.setIfInBounds k v).getD p.1 undef = _
      simp only [Array.getD_eq_getD_getElem?, Array.getElem?_setIfInBounds]
      rw [if_neg (fun h => hk h.symm)]
theorem put_defers (a : Act) (dst : Option Nat) (v : Value) : (a.put dst v).defers = a.defers := by cases dst <;> rfl
theorem step_ok (h : Sim C env σ w S a.tmps) (hd0 : a.defers = C.ds) (hN : dstOk N o.dst) {w' : World} {S' : Nat → Prop} {σ' : Store} {d : D} {v : Value} {nx : Act → World → Prop} {Q : Exit → Act → World → Prop}
    (hnx : ∀ a w, NX C next a w → nx a w) (hrun : (execOp a.eval o).run P w = .ok (.value v) w') (hd : Rep w' S' d v) (hst : RepStore w' S' σ') (hf : Fr w S (sdom σ) w' S' σ')
    (hn : next (eputo o.dst d env) σ') : o.wp P a w nx Q := by
  unfold Oper.wp
  rw [hrun, Oper.upon_value]
  exact hnx _ _ ⟨by rw [put_defers]; exact hd0, _, _, _, hn, sim_put h hN hd hst hf⟩
theorem step_skip_ok (h : Sim C env σ w S a.tmps) (hd0 : a.defers = C.ds) (hN : dstOk N o.dst) {w' : World} {S' : Nat → Prop} {σ' : Store} {nx : Act → World → Prop} {Q : Exit → Act → World → Prop}
    (hnx : ∀ a w, NX C next a w → nx a w) (hrun : (execOp a.eval o).run P w = .ok .skip w') (hst : RepStore w' S' σ') (hf : Fr w S (sdom σ) w' S' σ')
    (hn : next (eputo o.dst (.tup []) env) σ') : o.wp P a w nx Q := by
  unfold Oper.wp
  rw [hrun, Oper.upon_skip]
  exact hnx _ _ ⟨by rw [put_defers]; exact hd0, _, _, _, hn, sim_put h hN (.tup .nil) hst hf⟩
theorem step_val (h : Sim C env σ w S a.tmps) (hd0 : a.defers = C.ds) (hN : dstOk N o.dst) {d : D} {v : Value} {nx : Act → World → Prop} {Q : Exit → Act → World → Prop}
    (hnx : ∀ a w, NX C next a w → nx a w) (hrun : (execOp a.eval o).run P w = .ok (.value v) w) (hd : Rep w S d v) (hn : next (eputo o.dst d env) σ) : o.wp P a w nx Q :=
  step_ok h hd0 hN hnx hrun hd h.store (Fr.refl σ h.fr.lt) hn
theorem frozen_new (w : World) (o : Obj) (b : Nat) (hb : b ≠ w.heap.size) : (w.alloc o).heap[b]? = w.heap[b]? := by
  show (w.heap.push o)[b]? = _
  rw [Array.getElem?_push, if_neg hb]
theorem shape_alloc (w : World) (o : Obj) : Shape w (w.alloc o) := by
  intro b c e fr h
  refine ⟨c, fr, ?_, rfl⟩
  rw [frozen_new]
  · exact h
  · intro hb
    have := (Array.getElem?_eq_some_iff.1 h).1
    omega
theorem heap_alloc (w : World) (o : Obj) : (w.alloc o).heap[w.heap.size]? = some o := by
  show (w.heap.push o)[w.heap.size]? = _
  simp
theorem fr_alloc (h : Sim C env σ w S a.tmps) (ob : Obj) (x : AObj) : Fr w S (sdom σ) (w.alloc ob) S ((w.heap.size, x) :: σ) where
  os := rfl
  tape := rfl
  output := rfl
  size := by simp
  shape := shape_alloc w ob
  block := fun b hb _ => frozen_new w ob b (by omega)
  mono := fun _ h => h
  new := fun _ h => .inl h
  dom := fun b hb => by
    unfold sdom at *
    rw [sget_cons] at hb
    by_cases hbs : b = w.heap.size
    · exact .inr (by omega)
    · rw [if_neg hbs] at hb; exact .inl hb
  lt := fun b hb => by have := h.fr.lt b hb; simp; omega
theorem not_sdom_size (h : RepStore w S σ) : sget w.heap.size σ = none := by
  cases hs : sget w.heap.size σ with
  | none => rfl
  | some o => have := (h _ o hs).2.lt; omega
theorem ev_alloc (h : ∀ b, S b → b < w.heap.size) (ob : Obj) : Ev w S (w.alloc ob) S :=
  ⟨fun _ h => h, fun b hb => frozen_new w ob b (by have := h b hb; omega), shape_alloc w ob⟩
theorem store_alloc (h : RepStore w S σ) (hl : ∀ b, S b → b < w.heap.size) (ob : Obj) (x : AObj) (hx : RepObj (w.alloc ob) S w.heap.size x) : RepStore (w.alloc ob) S ((w.heap.size, x) :: σ) := by
  intro b o hb
  rw [sget_cons] at hb
  by_cases hbs : b = w.heap.size
  · subst hbs
    rw [if_pos rfl] at hb
    cases hb
    exact ⟨fun hS => by have := hl _ hS; omega, hx⟩
  · rw [if_neg hbs] at hb
    obtain ⟨h1, h2⟩ := h b o hb
    exact ⟨h1, h2.ev (ev_alloc hl ob) (frozen_new w ob b hbs)⟩
theorem step_new (h : Sim C env σ w S a.tmps) (hd0 : a.defers = C.ds) (hN : dstOk N o.dst) {ob : Obj} {x : AObj} {d : D} {v : Value} {nx : Act → World → Prop} {Q : Exit → Act → World → Prop}
    (hnx : ∀ a w, NX C next a w → nx a w) (hrun : (execOp a.eval o).run P w = .ok (.value v) (w.alloc ob)) (hx : RepObj (w.alloc ob) S w.heap.size x) (hd : Rep (w.alloc ob) S d v)
    (hn : next (eputo o.dst d env) ((w.heap.size, x) :: σ)) : o.wp P a w nx Q :=
  step_ok h hd0 hN hnx hrun hd (store_alloc h.store h.fr.lt ob x hx) (fr_alloc h ob x) hn
theorem repObj_arr {n : Nat} {xs : List D} {vals : List Value} {e : TypeId} {c : Array Value} (hl : ∀ b, S b → b < w.heap.size) (hr : RepL w S (flat xs) vals) (hc : ∀ (k : Nat) (x : Value), vals[k]? = some x → c[k]? = some x) (hs : ∀ x ∈ xs, x.cells.length = n) :
    RepObj (w.alloc (.cells c e)) S w.heap.size (.arr n xs) :=
  ⟨c, e, 0, 0, vals, heap_alloc w _, hr.ev (ev_alloc hl _), hc, hs, .inl (Nat.le_refl _)⟩
end steps
end Go.Ab
namespace Go.Ab
open Go
section
variable {P : Program}
theorem run_sizeOf {T : TypeId} {n : Nat} (h : rsize P T = some n) (w : World) : (sizeOf T).run P w = .ok n w := by
  unfold rsize at h
  cases hi : P.info? T with
  | none => simp [hi] at h
  | some i => simp [hi] at h; simp [sizeOf, typeInfo, hi, h]
theorem run_zeroValue {T : TypeId} {z : Value} (h : rzero P T = some z) (w : World) : (zeroValue T).run P w = .ok z w := by
  unfold rzero at h
  cases hi : P.info? T with
  | none => simp [hi] at h
  | some i => simp [hi] at h; simp [zeroValue, typeInfo, hi, h]
theorem run_isAgg {T : TypeId} {g : Bool} (h : ragg P T = some g) (w : World) : (isAgg T).run P w = .ok g w := by
  unfold ragg at h
  cases hi : P.underlying T with
  | none => simp [hi] at h
  | some d => rw [hi] at h; simp only [Option.map_some, Option.some.injEq] at h; subst h; cases d <;> simp [isAgg, run_underlying hi]
theorem relem_eq {T e : TypeId} (h : relem P T = some e) : P.underlying T = some (.slice e) := by
  unfold relem at h; split at h
  · rename_i e' he; cases h; exact he
  · cases h
theorem rfield_eq {T : TypeId} {f : Nat} {F : Field} (h : rfield P T f = some F) : ∃ fs, P.underlying T = some (.struct fs) ∧ fs[f]? = some F := by
  unfold rfield at h; split at h
  · rename_i fs hfs; exact ⟨fs, hfs, h⟩
  · cases h
theorem scal_ok {s : Sem Value} {Qp : D → Store → Prop} {next : Env → Store → Prop} {dst : Option Nat} {env : Env} {σ : Store} (h : vcRes P Qp next dst env σ (scal P s)) (w : World) (S : Nat → Prop) :
    ∃ d v, s.run P w = .ok v w ∧ Rep w S d v ∧ next (eputo dst d env) σ := by
  unfold scal at h
  split at h
  · rename_i r hr
    split at h
    · rename_i hok
      exact ⟨_, r, purely_run s hr w, rep_ofV hok, h.2⟩
    · exact h.elim
  · exact h.elim
end
section steps
variable {P : Program} {N : Slots} {C : Ctx P N} {env : Env} {σ : Store} {a : Act} {w : World} {S : Nat → Prop} {o : Oper}
variable {Qp : D → Store → Prop} {next : Env → Store → Prop} {nx : Act → World → Prop} {Q : Exit → Act → World → Prop}
theorem s_move (h : Sim C env σ w S a.tmps) (hd0 : a.defers = C.ds) (hN : dstOk N o.dst) (hnx : ∀ a w, NX C next a w → nx a w) {x : Operand} (ho : o.op = .move x ∨ o.op = .assign x)
    (hv : vcRes P Qp next o.dst env σ (.val True (ev env x))) : o.wp P a w nx Q :=
  step_val h hd0 hN hnx (v := a.eval x) (by rcases ho with ho | ho <;> simp [execOp, ho]) (ev_rep h x) hv.2
theorem s_pick (h : Sim C env σ w S a.tmps) (hd0 : a.defers = C.ds) (hN : dstOk N o.dst) (hnx : ∀ a w, NX C next a w → nx a w) {c x y : Operand} (ho : o.op = .pick c x y)
    (hv : vcRes P Qp next o.dst env σ (aPick (ev env c) (ev env x) (ev env y))) : o.wp P a w nx Q := by
  unfold aPick at hv
  split at hv
  · rename_i t ht
    have hc := ev_rep h c
    rw [ht] at hc
    refine step_val h hd0 hN hnx (v := if t then a.eval x else a.eval y) (by simp [execOp, ho, hc.v_inv, asBool]) ?_ hv.2
    cases t
    · exact ev_rep h y
    · exact ev_rep h x
  · exact hv.elim
theorem rep_cells {d : D} {x : Value} (h : Rep w S d x) (hp : d.plain = true) : RepL w S d.cells x.cells.toList := h.cells (by unfold D.plain at hp; simp only [Bool.and_eq_true] at hp; exact hp.1)
theorem s_alloc (h : Sim C env σ w S a.tmps) (hd0 : a.defers = C.ds) (hN : dstOk N o.dst) (hnx : ∀ a w, NX C next a w → nx a w) {T : TypeId} (ho : o.op = .alloc T)
    (hv : vcRes P Qp next o.dst env σ (aAlloc P T)) : o.wp P a w nx Q := by
  unfold aAlloc at hv
  split at hv
  · rename_i n z hn hz
    obtain ⟨⟨h1, h2, h3⟩, hk⟩ := hv
    have hr : Rep w S (ofV z) z := rep_ofV h1
    refine step_new h hd0 hN hnx (ob := .cells z.cells T) (x := .arr n [ofV z]) (d := .ptr w.heap.size n 0 0) (v := .pointer (some ⟨w.heap.size, 0, none⟩)) ?_ ?_ ?_ (hk _ (not_sdom_size h.store))
    · simp [execOp, ho, Instr.alloc, run_zeroValue hz, newVar, newRow]
    · refine repObj_arr h.fr.lt (vals := z.cells.toList) (by simpa using rep_cells hr h3) (fun k x hx => by simpa using hx) (by simpa using h2)
    · simpa using (Rep.ptr (b := w.heap.size) (sz := n) (i := 0) (o := 0) : Rep (w.alloc (.cells z.cells T)) S _ _)
  · exact hv.elim
theorem s_box (h : Sim C env σ w S a.tmps) (hd0 : a.defers = C.ds) (hN : dstOk N o.dst) (hnx : ∀ a w, NX C next a w → nx a w) {T : TypeId} {x : Operand} (ho : o.op = .box T x)
    (hv : vcRes P Qp next o.dst env σ (aBox P T (ev env x))) : o.wp P a w nx Q := by
  unfold aBox at hv
  split at hv
  · rename_i n hn
    obtain ⟨⟨h2, h3⟩, hk⟩ := hv
    have hr := ev_rep h x
    refine step_new h hd0 hN hnx (ob := .cells (a.eval x).cells T) (x := .arr n [ev env x]) (d := .ptr w.heap.size n 0 0) (v := .pointer (some ⟨w.heap.size, 0, none⟩)) ?_ ?_ ?_ (hk _ (not_sdom_size h.store))
    · simp [execOp, ho, Instr.box, newVar, newRow]
    · refine repObj_arr h.fr.lt (vals := (a.eval x).cells.toList) (by simpa using rep_cells hr h3) (fun k x hx => by simpa using hx) (by simpa using h2)
    · simpa using (Rep.ptr (b := w.heap.size) (sz := n) (i := 0) (o := 0) : Rep (w.alloc (.cells (a.eval x).cells T)) S _ _)
  · exact hv.elim
theorem s_makeFunc (h : Sim C env σ w S a.tmps) (hd0 : a.defers = C.ds) (hN : dstOk N o.dst) (hnx : ∀ a w, NX C next a w → nx a w) {fn : Fn} {f c : Array Operand} (ho : o.op = .makeFunc fn f c)
    (hv : vcRes P Qp next o.dst env σ (.val True (.clo fn (f.toList.map (ev env)) (c.toList.map (ev env))))) : o.wp P a w nx Q := by
  refine step_val h hd0 hN hnx (v := .func fn (f.map a.eval) (c.map a.eval)) (by simp [execOp, ho, Instr.makeFunc]) ?_ hv.2
  have := Rep.clo (fn := fn) (ev_reps h f.toList) (ev_reps h c.toList)
  have e1 : ∀ (l : Array Operand), (l.toList.map a.eval).toArray = l.map a.eval := fun l => by apply Array.ext'; simp
  rw [e1, e1] at this
  exact this
theorem s_makeInterface (h : Sim C env σ w S a.tmps) (hd0 : a.defers = C.ds) (hN : dstOk N o.dst) (hnx : ∀ a w, NX C next a w → nx a w) {T : TypeId} {x : Operand} (ho : o.op = .makeInterface T x)
    (hv : vcRes P Qp next o.dst env σ (.val (match P.underlying T with | some (.interface _) => False | some _ => True | none => False) (.ifc T (ev env x)))) : o.wp P a w nx Q := by
  obtain ⟨hp, hk⟩ := hv
  refine step_val h hd0 hN hnx (v := .iface T (a.eval x)) ?_ (.ifc (ev_rep h x)) hk
  cases hd : P.underlying T with
  | none => rw [hd] at hp; exact hp.elim
  | some d =>
    rw [hd] at hp
    have : (Instr.makeInterface T (a.eval x)).run P w = .ok (.iface T (a.eval x)) w := by
      cases d <;> first | exact hp.elim | simp [Instr.makeInterface, run_underlying hd]
    simp [execOp, ho, this]
theorem s_extract (h : Sim C env σ w S a.tmps) (hd0 : a.defers = C.ds) (hN : dstOk N o.dst) (hnx : ∀ a w, NX C next a w → nx a w) {x : Operand} {i : Nat} (ho : o.op = .extract x i)
    (hv : vcRes P Qp next o.dst env σ (aExtract (ev env x) i)) : o.wp P a w nx Q := by
  unfold aExtract at hv
  split at hv
  · rename_i xs hx
    split at hv
    · rename_i d hd
      have hr := ev_rep h x
      rw [hx] at hr
      generalize a.eval x = y at hr
      have : ∃ vals, a.eval x = .tuple vals ∧ ∃ v, vals[i]? = some v ∧ Rep w S d v := by
        have hr := ev_rep h x
        rw [hx] at hr
        generalize a.eval x = y at hr
        cases hr with
        | tup hr =>
          obtain ⟨v, hv, hrep⟩ := hr.get i d hd
          exact ⟨_, rfl, v, by simpa using hv, hrep⟩
      obtain ⟨vals, hy, v, hvi, hrep⟩ := this
      exact step_val h hd0 hN hnx (v := v) (by simp [execOp, ho, hy, Instr.extract, hvi]) hrep hv.2
    · exact hv.elim
  · exact hv.elim
theorem s_unOp (h : Sim C env σ w S a.tmps) (hd0 : a.defers = C.ds) (hN : dstOk N o.dst) (hnx : ∀ a w, NX C next a w → nx a w) {op : UnOp} {T : TypeId} {x : Operand} (ho : o.op = .unOp op T x)
    (hv : vcRes P Qp next o.dst env σ (aUn P op (ev env x))) : o.wp P a w nx Q := by
  unfold aUn at hv
  split at hv
  · rename_i y hy
    obtain ⟨d, v, hrun, hrep, hk⟩ := scal_ok hv w S
    have he := toV_rep hy (ev_rep h x)
    exact step_val h hd0 hN hnx (v := v) (by simp [execOp, ho, he, hrun]) hrep hk
  · exact hv.elim
end steps
end Go.Ab
namespace Go.Ab
open Go
theorem getD_lt {α : Type} (xs : List α) (i : Nat) (z : α) (h : i < xs.length) : xs.getD i z = xs[i] := by simp [h]
theorem flat_getD (xs : List D) (sz : Nat) (hs : ∀ x ∈ xs, x.cells.length = sz) : ∀ (i : Nat), i < xs.length → ∀ j, j < sz → (flat xs)[i * sz + j]? = (xs.getD i .any).cells[j]? := by
  induction xs with
  | nil => intro i hi; simp at hi
  | cons x xs ih =>
    intro i hi j hj
    have hx : x.cells.length = sz := hs x (by simp)
    cases i with
    | zero => simp only [flat_cons, Nat.zero_mul, Nat.zero_add, List.getD_cons_zero]; rw [List.getElem?_append_left (by omega)]
    | succ i =>
      simp only [flat_cons, List.getD_cons_succ]
      rw [List.getElem?_append_right (by rw [hx, Nat.succ_mul]; omega)]
      rw [show (i + 1) * sz + j - x.cells.length = i * sz + j by rw [hx, Nat.succ_mul]; omega]
      exact ih (fun y hy => hs y (by simp [hy])) i (by simpa using hi) j hj
theorem flat_length (xs : List D) (sz : Nat) (hs : ∀ x ∈ xs, x.cells.length = sz) : (flat xs).length = xs.length * sz := by
  induction xs with
  | nil => simp
  | cons x xs ih =>
    simp only [flat_cons, List.length_append, List.length_cons, Nat.succ_mul]
    rw [ih (fun y hy => hs y (by simp [hy])), hs x (by simp)]
    omega
theorem flat_set (xs : List D) (sz : Nat) (hs : ∀ x ∈ xs, x.cells.length = sz) : ∀ (i : Nat) (y : D), i < xs.length → y.cells.length = sz → flat (xs.set i y) = (flat xs).take (i * sz) ++ y.cells ++ (flat xs).drop (i * sz + sz) := by
  induction xs with
  | nil => intro i y hi; simp at hi
  | cons x xs ih =>
    intro i y hi hy
    have hx : x.cells.length = sz := hs x (by simp)
    cases i with
    | zero => simp [hx]
    | succ i =>
      simp only [List.set_cons_succ, flat_cons]
      rw [ih (fun y hy => hs y (by simp [hy])) i y (by simpa using hi) hy]
      rw [List.take_append, List.drop_append, hx]
      have e1 : (i + 1) * sz - sz = i * sz := by rw [Nat.succ_mul]; omega
      have e2 : (i + 1) * sz + sz - sz = i * sz + sz := by rw [Nat.succ_mul]; omega
      have e3 : x.cells.take ((i + 1) * sz) = x.cells := List.take_of_length_le (by rw [hx, Nat.succ_mul]; omega)
      have e4 : x.cells.drop ((i + 1) * sz + sz) = [] := List.drop_of_length_le (by rw [hx, Nat.succ_mul]; omega)
      rw [e1, e2, e3, e4]
      simp
theorem getElem?_flat {xs : List D} {sz i : Nat} (hs : ∀ x ∈ xs, x.cells.length = sz) (hi : i < xs.length) (j : Nat) (d : D) (h : (xs.getD i .any).cells[j]? = some d) : (flat xs)[i * sz + j]? = some d := by
  have hx : (xs.getD i .any).cells.length = sz := by
    rw [getD_lt _ _ _ hi]
    exact hs _ (List.getElem_mem hi)
  have hj : j < sz := by
    have := (List.getElem?_eq_some_iff.1 h).1
    omega
  rw [flat_getD xs sz hs i hi j hj]; exact h
section
variable {P : Program} {w : World} {S : Nat → Prop}
theorem rep_load {cs : List D} {b off n : Nat} {T : TypeId} {g : Bool} (hn : rsize P T = some n) (hg : ragg P T = some g) (hok : getcOk g n cs)
    (hc : ∀ (j : Nat) (d : D), cs[j]? = some d → ∃ v, w.cell? ⟨b, off + j, none⟩ = some v ∧ Rep w S d v) : ∃ v, (loadVar T ⟨b, off, none⟩).run P w = .ok v w ∧ Rep w S (getc g n cs) v := by
  cases g with
  | false =>
    cases cs with
    | nil => simp [getcOk] at hok
    | cons d cs =>
      obtain ⟨v, hv, hr⟩ := hc 0 d (by simp)
      refine ⟨v, ?_, by simpa [getc] using hr⟩
      simp only [Nat.add_zero] at hv
      simp [loadVar, run_isAgg hg, hv]
  | true =>
    simp only [getcOk, if_true] at hok
    have : ∀ m, m ≤ n → ∃ vals : List Value, vals.length = m ∧ RepL w S (cs.take m) vals ∧ ∀ j v, vals[j]? = some v → w.cell? ⟨b, off + j, none⟩ = some v := by
      intro m
      induction m with
      | zero => intro _; exact ⟨[], rfl, by simpa using RepL.nil, fun j v hv => by simp at hv⟩
      | succ m ih =>
        intro hm
        obtain ⟨vals, hl, hr, hv⟩ := ih (by omega)
        obtain ⟨d, hd⟩ : ∃ d, cs[m]? = some d := ⟨cs[m]'(by omega), by simp⟩
        obtain ⟨v, hvc, hvr⟩ := hc m d hd
        refine ⟨vals ++ [v], by simp [hl], ?_, ?_⟩
        · rw [List.take_add_one, hd]
          exact hr.append (.one hvr)
        · intro j u hu
          by_cases hj : j < m
          · rw [List.getElem?_append_left (by omega)] at hu
            exact hv j u hu
          · have hjm : j = m := by
              have := (List.getElem?_eq_some_iff.1 hu).1
              simp at this; omega
            subst hjm
            rw [List.getElem?_append_right (by omega)] at hu
            simp [hl] at hu
            subst hu; exact hvc
    obtain ⟨vals, hl, hr, hv⟩ := this n (Nat.le_refl _)
    refine ⟨.agg vals.toArray, ?_, by simpa [getc] using Rep.agg hr⟩
    have hload := run_loadCells_list (P := P) w ⟨b, off, none⟩ vals (fun j v hj => by
      have := hv j v hj
      unfold Addr.add
      split
      · rename_i h0; subst h0; simpa using this
      · simpa using this)
    rw [hl] at hload
    simp [loadVar, run_isAgg hg, run_sizeOf hn, hload]
theorem cells_of_row {b : Nat} {c : Array Value} {e : TypeId} {fr : Nat × Nat} (h : w.heap[b]? = some (.cells c e fr)) (k : Nat) : w.cell? ⟨b, k, none⟩ = c[k]? := by
  simp [World.cell?, h]
theorem arr_cell {b sz i : Nat} {xs : List D} (h : RepObj w S b (.arr sz xs)) (hi : i < xs.length) (o j : Nat) (d : D) (hd : ((xs.getD i .any).cells.drop o)[j]? = some d) :
    ∃ v, w.cell? ⟨b, i * sz + o + j, none⟩ = some v ∧ Rep w S d v := by
  obtain ⟨c, e, lo, hi', vals, hh, hr, hc, hs, hfz⟩ := h
  rw [List.getElem?_drop] at hd
  obtain ⟨v, hv, hrep⟩ := hr.get _ d (getElem?_flat hs hi (o + j) d hd)
  refine ⟨v, ?_, hrep⟩
  rw [cells_of_row hh]
  have := hc _ v hv
  rw [show i * sz + o + j = i * sz + (o + j) by omega]; exact this
end
section steps
variable {P : Program} {N : Slots} {C : Ctx P N} {env : Env} {σ : Store} {a : Act} {w : World} {S : Nat → Prop} {o : Oper}
variable {Qp : D → Store → Prop} {next : Env → Store → Prop} {nx : Act → World → Prop} {Q : Exit → Act → World → Prop}
theorem elt_inv {cs : List D} {v : Value} (h : Rep w S (.elt cs) v) : ∃ b off vals, v = .pointer (some ⟨b, off, none⟩) ∧ S b ∧ RepL w S cs vals ∧ CellsAt w b off vals := by
  cases h with
  | elt hb hr hc => exact ⟨_, _, _, rfl, hb, hr, hc⟩
theorem ptr_inv {b sz i o : Nat} {v : Value} (h : Rep w S (.ptr b sz i o) v) : v = .pointer (some ⟨b, i * sz + o, none⟩) := by cases h; rfl
theorem s_load (h : Sim C env σ w S a.tmps) (hd0 : a.defers = C.ds) (hN : dstOk N o.dst) (hnx : ∀ a w, NX C next a w → nx a w) {T : TypeId} {x : Operand} (ho : o.op = .load T x)
    (hv : vcRes P Qp next o.dst env σ (aLoad P σ T (ev env x))) : o.wp P a w nx Q := by
  unfold aLoad at hv
  have hx := ev_rep h x
  split at hv
  · rename_i n g cs hn hg hd
    rw [hd] at hx
    obtain ⟨b, off, vals, he, hb, hr, hc⟩ := elt_inv hx
    obtain ⟨hok, hk⟩ := hv
    obtain ⟨v, hrun, hrep⟩ := rep_load (P := P) (w := w) (S := S) (b := b) (off := off) hn hg hok (fun j d hj => by
      obtain ⟨v, hv, hrep⟩ := hr.get j d hj
      exact ⟨v, hc j v hv, hrep⟩)
    exact step_val h hd0 hN hnx (v := v) (by simp [execOp, ho, Instr.loadAt, Instr.sureAddr, he, hrun]) hrep hk
  · rename_i n g b sz i off hn hg hd
    rw [hd] at hx
    have he := ptr_inv hx
    split at hv
    · rename_i sz' xs hs
      obtain ⟨⟨rfl, hi, hok⟩, hk⟩ := hv
      have hobj := (h.store b _ hs).2
      obtain ⟨v, hrun, hrep⟩ := rep_load (P := P) (w := w) (S := S) (b := b) (off := i * sz' + off) hn hg hok (fun j d hj => arr_cell hobj hi off j d hj)
      exact step_val h hd0 hN hnx (v := v) (by simp [execOp, ho, Instr.loadAt, Instr.sureAddr, he, hrun]) hrep hk
    · exact hv.elim
  · exact hv.elim
theorem s_nilCheck (h : Sim C env σ w S a.tmps) (hd0 : a.defers = C.ds) (hN : dstOk N o.dst) (hnx : ∀ a w, NX C next a w → nx a w) {x : Operand} (ho : o.op = .nilCheck x)
    (hv : vcRes P Qp next o.dst env σ (aNilCheck (ev env x))) : o.wp P a w nx Q := by
  have hx := ev_rep h x
  have key : ∀ d, ev env x = d → vcRes P Qp next o.dst env σ (.val True d) → (∀ v, Rep w S d v → (match v with
      | .pointer none | .nilIface | .nilFunc => False
      | .func (.method _) _ _ => False
      | _ => True)) → o.wp P a w nx Q := by
    intro d hd hv hr
    rw [hd] at hx
    have hc := hr _ hx
    refine step_val h hd0 hN hnx (v := a.eval x) ?_ hx hv.2
    simp only [execOp, ho]
    generalize a.eval x = y at hc hx
    split <;> first | exact hc.elim | rfl
  unfold aNilCheck at hv
  split at hv
  · rename_i hd; exact key _ hd hv (fun v hr => by cases hr; trivial)
  · rename_i hd; exact key _ hd hv (fun v hr => by cases hr; trivial)
  · rename_i hd; exact key _ hd hv (fun v hr => by cases hr; trivial)
  · rename_i hd; exact key _ hd hv (fun v hr => by cases hr; trivial)
  · rename_i hd; exact key _ hd hv (fun v hr => by cases hr; trivial)
  · rename_i hd; exact key _ hd hv (fun v hr => by cases hr; trivial)
  · exact hv.elim
theorem s_fieldAddr (h : Sim C env σ w S a.tmps) (hd0 : a.defers = C.ds) (hN : dstOk N o.dst) (hnx : ∀ a w, NX C next a w → nx a w) {T : TypeId} {x : Operand} {f : Nat} (ho : o.op = .fieldAddr T x f)
    (hv : vcRes P Qp next o.dst env σ (aFieldAddr P T (ev env x) f)) : o.wp P a w nx Q := by
  unfold aFieldAddr at hv
  have hx := ev_rep h x
  split at hv
  · rename_i F hF
    obtain ⟨fs, hfs, hf⟩ := rfield_eq hF
    split at hv
    · rename_i n b sz i off hn hd
      rw [hd] at hx
      have he := ptr_inv hx
      obtain ⟨hpos, hk⟩ := hv
      refine step_val h hd0 hN hnx (v := .pointer (some ⟨b, i * sz + (off + F.offset), none⟩)) ?_ .ptr hk
      have hadd : (⟨b, i * sz + off, none⟩ : Addr).add F.offset = ⟨b, i * sz + (off + F.offset), none⟩ := by
        unfold Addr.add; split <;> simp_all [Nat.add_assoc]
      have hne : ¬ n = 0 := by omega
      simp [execOp, ho, he, Instr.fieldAt, Instr.sureAddr, run_underlying hfs, hf, fieldPlace, run_sizeOf hn, hne, hadd]
    · rename_i n cs hn hd
      rw [hd] at hx
      obtain ⟨b, off, vals, he, hb, hr, hc⟩ := elt_inv hx
      obtain ⟨⟨hpos, hle⟩, hk⟩ := hv
      refine step_val h hd0 hN hnx (v := .pointer (some ⟨b, off + F.offset, none⟩)) ?_ (.elt hb (hr.drop F.offset) ?_) hk
      · have hadd : (⟨b, off, none⟩ : Addr).add F.offset = ⟨b, off + F.offset, none⟩ := by
          unfold Addr.add; split <;> simp_all
        have hne : ¬ n = 0 := by omega
        simp [execOp, ho, he, Instr.fieldAt, Instr.sureAddr, run_underlying hfs, hf, fieldPlace, run_sizeOf hn, hne, hadd]
      · intro k v hk
        rw [List.getElem?_drop] at hk
        rw [show off + F.offset + k = off + (F.offset + k) by omega]
        exact hc _ v hk
    · exact hv.elim
  · exact hv.elim
theorem agg_inv {cs : List D} {v : Value} (h : Rep w S (.agg cs) v) : ∃ vals : List Value, v = .agg vals.toArray ∧ RepL w S cs vals := by
  cases h with
  | agg hr => exact ⟨_, rfl, hr⟩
theorem rep_part {cs : List D} {vals : List Value} {off n : Nat} {T : TypeId} {g : Bool} (hn : rsize P T = some n) (hg : ragg P T = some g) (hok : getcOk g n (cs.drop off)) (hr : RepL w S cs vals) :
    ∃ v, (part T vals.toArray off).run P w = .ok v w ∧ Rep w S (getc g n (cs.drop off)) v := by
  cases g with
  | false =>
    simp only [getcOk, Bool.false_eq_true, if_false] at hok
    obtain ⟨d, hd⟩ : ∃ d, (cs.drop off)[0]? = some d := ⟨(cs.drop off)[0]'hok, by simp⟩
    have hd' := hd
    rw [List.getElem?_drop] at hd
    obtain ⟨v, hv, hrep⟩ := hr.get _ d hd
    simp only [Nat.add_zero] at hv
    refine ⟨v, by simp [part, run_isAgg hg, hv], ?_⟩
    simp only [getc, Bool.false_eq_true, if_false]
    cases hcs : cs.drop off with
    | nil => rw [hcs] at hd'; simp at hd'
    | cons y ys => rw [hcs] at hd'; simp at hd'; subst hd'; exact hrep
  | true =>
    refine ⟨.agg ((vals.drop off).take n).toArray, ?_, by simpa [getc] using Rep.agg ((hr.drop off).take n)⟩
    simp [part, run_isAgg hg, run_sizeOf hn]
theorem s_field (h : Sim C env σ w S a.tmps) (hd0 : a.defers = C.ds) (hN : dstOk N o.dst) (hnx : ∀ a w, NX C next a w → nx a w) {T : TypeId} {x : Operand} {f : Nat} (ho : o.op = .field T x f)
    (hv : vcRes P Qp next o.dst env σ (aField P T (ev env x) f)) : o.wp P a w nx Q := by
  unfold aField at hv
  have hx := ev_rep h x
  split at hv
  · rename_i F hF
    obtain ⟨fs, hfs, hf⟩ := rfield_eq hF
    split at hv
    · rename_i n g cs hn hg hd
      rw [hd] at hx
      obtain ⟨vals, he, hr⟩ := agg_inv hx
      obtain ⟨v, hrun, hrep⟩ := rep_part (P := P) hn hg hv.1 hr
      exact step_val h hd0 hN hnx (v := v) (by simp [execOp, ho, he, Instr.field, run_underlying hfs, hf, asAgg, hrun]) hrep hv.2
    · exact hv.elim
  · exact hv.elim
end steps
end Go.Ab
namespace Go.Ab
open Go
theorem setCells_heap (b : Nat) (e : TypeId) (fr : Nat × Nat) : ∀ (vs : List Value) (o : Nat) (w : World) (c : Array Value), w.heap[b]? = some (.cells c e fr) → o + vs.length ≤ c.size →
    ∃ c', (w.setCells b o vs).heap[b]? = some (.cells c' e fr) ∧ c'.size = c.size ∧ ∀ k, c'[k]? = if o ≤ k ∧ k < o + vs.length then vs[k - o]? else c[k]?
  | [], o, w, c, h, _ => ⟨c, h, rfl, fun k => by
      rw [if_neg]
      simp only [List.length_nil]; omega⟩
  | v :: vs, o, w, c, h, hl => by
    have hlt := (Array.getElem?_eq_some_iff.1 h).1
    have h1 : (w.setCell ⟨b, o, none⟩ v).heap[b]? = some (.cells (c.setIfInBounds o v) e fr) := by
      show (w.heap.modify b _)[b]? = _
      rw [Array.getElem?_modify, if_pos rfl, h]
      simp
    obtain ⟨c', h2, h3, h4⟩ := setCells_heap b e fr vs (o + 1) (w.setCell ⟨b, o, none⟩ v) (c.setIfInBounds o v) h1 (by simp at hl ⊢; omega)
    refine ⟨c', h2, by simpa using h3, fun k => ?_⟩
    rw [h4]
    simp only [List.length_cons] at hl ⊢
    by_cases hk : o + 1 ≤ k ∧ k < o + 1 + vs.length
    · rw [if_pos hk, if_pos (by omega)]
      rw [show k - o = (k - (o + 1)) + 1 by omega]; simp
    · rw [if_neg hk]
      by_cases hko : k = o
      · subst hko
        rw [if_pos (by omega)]
        simp only [Nat.sub_self, List.getElem?_cons_zero, Array.getElem?_setIfInBounds, if_pos]
        rw [if_pos (by omega)]
      · rw [if_neg (by omega)]
        rw [Array.getElem?_setIfInBounds, if_neg (fun h => hko h.symm)]
theorem setCells_other (b : Nat) : ∀ (vs : List Value) (o : Nat) (w : World) (k : Nat), k ≠ b → (w.setCells b o vs).heap[k]? = w.heap[k]?
  | [], _, _, _, _ => rfl
  | v :: vs, o, w, k, h => by
    show ((w.setCell ⟨b, o, none⟩ v).setCells b (o + 1) vs).heap[k]? = _
    rw [setCells_other b vs (o + 1) _ k h]
    simp only [World.setCell, Array.getElem?_modify]
    rw [if_neg (fun hh => h hh.symm)]
theorem setCells_fields (b : Nat) : ∀ (vs : List Value) (o : Nat) (w : World), (w.setCells b o vs).os = w.os ∧ (w.setCells b o vs).tape = w.tape ∧ (w.setCells b o vs).output = w.output ∧ (w.setCells b o vs).heap.size = w.heap.size
  | [], _, _ => ⟨rfl, rfl, rfl, rfl⟩
  | v :: vs, o, w => by
    obtain ⟨h1, h2, h3, h4⟩ := setCells_fields b vs (o + 1) (w.setCell ⟨b, o, none⟩ v)
    exact ⟨h1, h2, h3, by rw [show (w.setCells b o (v :: vs)) = ((w.setCell ⟨b, o, none⟩ v).setCells b (o + 1) vs) from rfl, h4]; simp⟩
theorem fr_row {w w' : World} {S : Nat → Prop} {σ : Store} {b : Nat} {x y : AObj} (hl : ∀ b, S b → b < w.heap.size) (hs : sget b σ = some x) (h1 : w'.os = w.os) (h2 : w'.tape = w.tape) (h3 : w'.output = w.output) (h4 : w'.heap.size = w.heap.size)
    (ho : ∀ k, k ≠ b → w'.heap[k]? = w.heap[k]?) (hsh : Shape w w') : Fr w S (sdom σ) w' S (sset b y σ) where
  os := h1
  tape := h2
  output := h3
  size := by omega
  shape := hsh
  block := fun k _ hk => ho k (fun e => by subst e; exact hk (by unfold sdom; rw [hs]; simp))
  mono := fun _ h => h
  new := fun _ h => .inl h
  dom := fun k hk => by
    unfold sdom at *
    rw [sget_sset] at hk
    by_cases hkb : k = b
    · subst hkb; left; rw [hs]; simp
    · rw [if_neg hkb] at hk; exact .inl hk
  lt := fun k hk => by have := hl k hk; omega
theorem shape_row {w w' : World} {b : Nat} (ho : ∀ k, k ≠ b → w'.heap[k]? = w.heap[k]?) {c c' : Array Value} {e : TypeId} {fr : Nat × Nat} (h : w.heap[b]? = some (.cells c e fr)) (h' : w'.heap[b]? = some (.cells c' e fr)) (hsz : c'.size = c.size) : Shape w w' := by
  intro k x e' fr' hk
  by_cases hkb : k = b
  · subst hkb
    rw [h] at hk
    cases hk
    exact ⟨c', _, h', hsz⟩
  · exact ⟨x, fr', (ho k hkb).trans hk, rfl⟩
theorem store_row {w w' : World} {S : Nat → Prop} {σ : Store} {b : Nat} {y : AObj} (h : RepStore w S σ) (hE : Ev w S w' S) (ho : ∀ k, k ≠ b → w'.heap[k]? = w.heap[k]?) (hS : ¬ S b) (hy : RepObj w' S b y) : RepStore w' S (sset b y σ) := by
  intro k o hk
  rw [sget_sset] at hk
  by_cases hkb : k = b
  · subst hkb
    rw [if_pos rfl] at hk
    cases hs : sget k σ with
    | none => rw [hs] at hk; cases hk
    | some x => rw [hs] at hk; cases hk; exact ⟨hS, hy⟩
  · rw [if_neg hkb] at hk
    obtain ⟨h1, h2⟩ := h k o hk
    exact ⟨h1, h2.ev hE (ho k hkb)⟩
theorem RepL.of_get {w : World} {S : Nat → Prop} : ∀ {ds : List D} {xs : List Value}, xs.length = ds.length → (∀ (i : Nat) (d : D), ds[i]? = some d → ∃ x, xs[i]? = some x ∧ Rep w S d x) → RepL w S ds xs
  | [], [], _, _ => .nil
  | [], x :: xs, h, _ => by simp at h
  | d :: ds, [], h, _ => by simp at h
  | d :: ds, x :: xs, h, hg => by
    obtain ⟨y, hy, hr⟩ := hg 0 d (by simp)
    simp at hy; subst hy
    exact .cons hr (RepL.of_get (by simpa using h) fun i d hd => by
      obtain ⟨y, hy, hr⟩ := hg (i + 1) d (by simpa using hd)
      exact ⟨y, by simpa using hy, hr⟩)
theorem putc_cells {old x : D} {o n sz : Nat} (hold : old.cells.length = sz) (hx : x.cells.length = n) (ho : o + n ≤ sz) (hc : (∃ cs, old = .agg cs) ∨ (n = sz ∧ o = 0)) :
    (putc old o x).cells = old.cells.take o ++ x.cells ++ old.cells.drop (o + n) := by
  rcases hc with ⟨cs, rfl⟩ | ⟨rfl, rfl⟩
  · show cs.take o ++ x.cells ++ cs.drop (o + x.cells.length) = _
    rw [hx]; rfl
  · unfold putc
    split
    · rename_i cs
      have hcs : cs.length = n := hold
      show cs.take 0 ++ x.cells ++ cs.drop (0 + x.cells.length) = _
      rw [hx]; rfl
    · have : old.cells.drop (0 + n) = [] := List.drop_of_length_le (by omega)
      rw [this]; simp
section steps
variable {P : Program} {N : Slots} {C : Ctx P N} {env : Env} {σ : Store} {a : Act} {w : World} {S : Nat → Prop} {o : Oper}
variable {Qp : D → Store → Prop} {next : Env → Store → Prop} {nx : Act → World → Prop} {Q : Exit → Act → World → Prop}
theorem plain_one {d : D} {v : Value} (h : Rep w S d v) (hp : d.plain = true) : ∀ x ∈ v.cells.toList, x.oneCell' = true := by
  have hr := rep_cells h hp
  unfold D.plain at hp
  simp only [Bool.and_eq_true, List.all_eq_true] at hp
  exact hr.one_cell hp.2
theorem s_store (h : Sim C env σ w S a.tmps) (hd0 : a.defers = C.ds) (hN : dstOk N o.dst) (hnx : ∀ a w, NX C next a w → nx a w) {T : TypeId} {x y : Operand} (ho : o.op = .store T x y)
    (hv : vcRes P Qp next o.dst env σ (aStore P σ T (ev env x) (ev env y))) : o.wp P a w nx Q := by
  unfold aStore at hv
  have hx := ev_rep h x
  have hy := ev_rep h y
  split at hv
  · rename_i n b sz i off hn hd
    rw [hd] at hx
    have he := ptr_inv hx
    split at hv
    · rename_i sz' xs hs
      obtain ⟨⟨rfl, hi, hlen, hpl, hle, hcase⟩, hk⟩ := hv
      obtain ⟨hSb, hobj⟩ := h.store b _ hs
      have hobj' := hobj
      obtain ⟨c, e, lo, hi', vals, hh, hr, hc, hsz, hfz⟩ := hobj
      have hcl := rep_cells hy hpl
      have hvl : (a.eval y).cells.toList.length = n := by rw [hcl.length, hlen]
      have hcs : (a.eval y).cells.size = n := by simpa using hvl
      have hvalsl : vals.length = xs.length * sz' := by rw [hr.length, flat_length xs sz' hsz]
      have hend : i * sz' + sz' ≤ vals.length := by
        rw [hvalsl, ← Nat.succ_mul]; exact Nat.mul_le_mul_right _ hi
      have hcsz : ∀ k, k < vals.length → k < c.size := fun k hk => by
        obtain ⟨v, hv⟩ : ∃ v, vals[k]? = some v := ⟨vals[k], by simp [hk]⟩
        exact (Array.getElem?_eq_some_iff.1 (hc k v hv)).1
      have hcbig : i * sz' + off + (a.eval y).cells.toList.length ≤ c.size := by
        rw [hvl]
        rcases Nat.eq_zero_or_pos (i * sz' + off + n) with hz | hz
        · omega
        · have := hcsz (i * sz' + off + n - 1) (by omega); omega
      obtain ⟨c', hc'1, hc'2, hc'3⟩ := setCells_heap b e (lo, hi') (a.eval y).cells.toList (i * sz' + off) w c hh hcbig
      have hst := run_storeCells_cells (P := P) b (i * sz' + off) (a.eval y).cells.toList 0 w
        (fun j hj => by
          rw [cells_of_row hh]
          rw [Array.getElem?_eq_getElem (by omega)]; rfl)
        (fun j hj => by
          have : i * sz' + off + 0 + j < c.size := by omega
          unfold World.frozen?
          simp only [hh]
          simp; omega)
        (plain_one hy hpl)
      simp only [Nat.add_zero] at hst
      have hother := fun k hk => setCells_other b (a.eval y).cells.toList (i * sz' + off) w k hk
      obtain ⟨f1, f2, f3, f4⟩ := setCells_fields b (a.eval y).cells.toList (i * sz' + off) w
      have hsh := shape_row hother hh hc'1 hc'2
      have hfr := fr_row (y := .arr sz' (xs.set i (putc (xs.getD i .any) off (ev env y)))) h.fr.lt hs f1 f2 f3 f4 hother hsh
      have hE := sim_ev h hfr
      have hold : (xs.getD i .any).cells.length = sz' := by rw [getD_lt _ _ _ hi]; exact hsz _ (List.getElem_mem hi)
      have hpc := putc_cells (x := ev env y) hold hlen hle hcase
      have hpl' : (putc (xs.getD i .any) off (ev env y)).cells.length = sz' := by
        rw [hpc, List.length_append, List.length_append, List.length_take, List.length_drop, hold, hlen]; omega
      have hnew : RepObj (w.setCells b (i * sz' + off) (a.eval y).cells.toList) S b (.arr sz' (xs.set i (putc (xs.getD i .any) off (ev env y)))) := by
        refine ⟨c', e, lo, hi', vals.take (i * sz' + off) ++ (a.eval y).cells.toList ++ vals.drop (i * sz' + off + n), hc'1, ?_, ?_, ?_, by rw [hc'2]; exact hfz⟩
        · rw [flat_set xs sz' hsz i _ hi hpl', hpc]
          have hr' := hr.ev hE
          have e1 : (flat xs).take (i * sz') ++ ((xs.getD i .any).cells.take off ++ (ev env y).cells ++ (xs.getD i .any).cells.drop (off + n)) ++ (flat xs).drop (i * sz' + sz') =
              (flat xs).take (i * sz' + off) ++ (ev env y).cells ++ (flat xs).drop (i * sz' + off + n) := by
            have hfl : (flat xs).length = xs.length * sz' := flat_length xs sz' hsz
            have hseg : ((flat xs).drop (i * sz')).take sz' = (xs.getD i .any).cells := by
              apply List.ext_getElem?
              intro j
              rw [List.getElem?_take]
              by_cases hj : j < sz'
              · rw [if_pos hj, List.getElem?_drop, flat_getD xs sz' hsz i hi j hj]
              · rw [if_neg hj, List.getElem?_eq_none (by omega)]
            rw [← hseg]
            have t1 : (flat xs).take (i * sz' + off) = (flat xs).take (i * sz') ++ (((flat xs).drop (i * sz')).take sz').take off := by
              rw [List.take_take, Nat.min_eq_left (by omega), ← List.take_add]
            have t2 : (flat xs).drop (i * sz' + off + n) = (((flat xs).drop (i * sz')).take sz').drop (off + n) ++ (flat xs).drop (i * sz' + sz') := by
              rw [List.drop_take, ← List.drop_drop]
              have := List.take_append_drop (sz' - (off + n)) (((flat xs).drop (i * sz')).drop (off + n))
              rw [List.drop_drop, List.drop_drop] at this
              rw [show i * sz' + (off + n) + (sz' - (off + n)) = i * sz' + sz' by omega] at this
              rw [List.drop_drop, List.drop_drop, show i * sz' + (off + n) = i * sz' + off + n by omega] at *
              exact this.symm
            rw [t1, t2]
            simp [List.append_assoc]
          rw [e1]
          exact ((hr'.take _).append (hcl.ev hE)).append (hr'.drop _)
        · intro k v hkv
          rw [hc'3]
          by_cases hin : i * sz' + off ≤ k ∧ k < i * sz' + off + (a.eval y).cells.toList.length
          · rw [if_pos hin]
            rw [List.append_assoc, List.getElem?_append_right (by simp; omega), List.getElem?_append_left (by simp at *; omega)] at hkv
            simp only [List.length_take] at hkv
            rw [show k - min (i * sz' + off) vals.length = k - (i * sz' + off) by omega] at hkv
            exact hkv
          · rw [if_neg hin]
            apply hc
            by_cases hlt : k < i * sz' + off
            · rw [List.append_assoc, List.getElem?_append_left (by simp; omega), List.getElem?_take, if_pos hlt] at hkv
              exact hkv
            · rw [List.getElem?_append_right (by simp at *; omega), List.getElem?_drop] at hkv
              simp only [List.length_append, List.length_take] at hkv
              rw [show i * sz' + off + n + (k - (min (i * sz' + off) vals.length + (a.eval y).cells.toList.length)) = k by omega] at hkv
              exact hkv
        · intro z hz
          rcases List.mem_or_eq_of_mem_set hz with hz | hz
          · exact hsz z hz
          · rw [hz]; exact hpl'
      refine step_skip_ok h hd0 hN hnx (w' := w.setCells b (i * sz' + off) (a.eval y).cells.toList) ?_ (store_row h.store hE hother hSb hnew) hfr hk
      simp [execOp, ho, he, Instr.storeAt, Instr.sureAddr, storeVar, run_sizeOf hn, hcs, hst]
    · exact hv.elim
  · exact hv.elim
end steps
end Go.Ab
namespace Go.Ab
open Go
section
variable {P : Program} {w : World} {S : Nat → Prop}
theorem own_cap {b sz n : Nat} {v : Value} (h : Rep w S (.own (some b) sz n) v) : ∃ cap c e fr, v = .slice (some ⟨b, 0, none⟩) n cap ∧ n ≤ cap ∧ w.heap[b]? = some (.cells c e fr) ∧ cap * sz ≤ c.size ∧ cap ≤ 9223372036854775807 := by
  cases h with
  | own hh hn hc hm => exact ⟨_, _, _, _, rfl, hn, hh, hc, hm⟩
theorem own_inv {b sz n : Nat} {v : Value} (h : Rep w S (.own (some b) sz n) v) : ∃ cap c e fr, v = .slice (some ⟨b, 0, none⟩) n cap ∧ n ≤ cap ∧ w.heap[b]? = some (.cells c e fr) ∧ cap * sz ≤ c.size := by
  cases h with
  | own hh hn hc hm => exact ⟨_, _, _, _, rfl, hn, hh, hc⟩
theorem win_pos {b sz off n : Nat} {v : Value} (h : Rep w S (.win b sz off n) v) (hn : 0 < n) : ∃ cap, v = .slice (some ⟨b, off * sz, none⟩) n cap := by
  cases h with
  | win0 => omega
  | win hh hn hc hm => exact ⟨_, rfl⟩
theorem win_inv {b sz off n : Nat} {v : Value} (h : Rep w S (.win b sz off n) v) : (∃ ad cap, v = .slice ad 0 cap ∧ n = 0) ∨ ∃ cap c e fr, v = .slice (some ⟨b, off * sz, none⟩) n cap ∧ n ≤ cap ∧ w.heap[b]? = some (.cells c e fr) ∧ (off + cap) * sz ≤ c.size ∧ cap ≤ 9223372036854775807 := by
  cases h with
  | win0 => exact .inl ⟨_, _, rfl, rfl⟩
  | win hh hn hc hm => exact .inr ⟨_, _, _, _, rfl, hn, hh, hc, hm⟩
theorem own0_inv {sz n : Nat} {v : Value} (h : Rep w S (.own none sz n) v) : ∃ ad, v = .slice ad 0 0 ∧ n = 0 := by
  cases h with
  | own0 => exact ⟨_, rfl, rfl⟩
theorem slc_inv {xs : List D} {v : Value} (h : Rep w S (.slc xs) v) : ∃ ad cap, v = .slice ad xs.length cap ∧ xs.length ≤ cap ∧ (xs = [] ∨ ∃ b off sz vals, ad = some ⟨b, off, none⟩ ∧ S b ∧ RepL w S (flat xs) vals ∧ CellsAt w b off vals ∧ ∀ x ∈ xs, x.cells.length = sz) := by
  cases h with
  | slc0 => exact ⟨_, _, rfl, by simp, .inl rfl⟩
  | slc hb hr hc hs hcap => exact ⟨_, _, rfl, hcap, .inr ⟨_, _, _, _, rfl, hb, hr, hc, hs⟩⟩
theorem isStr_eq {T : TypeId} (h : isStr P T = true) : P.underlying T = some .string := by
  unfold isStr at h; split at h
  · assumption
  · cases h
theorem isByteSlice_eq {T : TypeId} (h : isByteSlice P T = true) : ∃ e, P.underlying T = some (.slice e) ∧ P.underlying e = some (.int .u8) := by
  unfold isByteSlice at h; split at h
  · rename_i e he
    split at h
    · rename_i hb; exact ⟨e, relem_eq he, hb⟩
    · cases h
  · cases h
end
section steps
variable {P : Program} {N : Slots} {C : Ctx P N} {env : Env} {σ : Store} {a : Act} {w : World} {S : Nat → Prop} {o : Oper}
variable {Qp : D → Store → Prop} {next : Env → Store → Prop} {nx : Act → World → Prop} {Q : Exit → Act → World → Prop}
theorem unlike_ok {T : TypeId} {x y : Value} (hq : (Op.equal T x y).run P w = .ok false w) (hg : ∀ op xo yo, (eqGuard op T xo yo x y).run P w = .ok () w)
    (h1 : binOp .eql T x y = (do pure (.bool (← Op.equal T x y)))) (h2 : binOp .neq T x y = (do pure (.bool (!(← Op.equal T x y))))) :
    ∀ op, (op = .eql ∨ op = .neq) → ∀ xo yo, (do eqGuard op T xo yo x y; binOp op T x y : Sem Value).run P w = .ok (.bool (match op with | .neq => true | _ => false)) w := by
  intro op hop xo yo
  rw [Sem.run_bind, hg]
  rcases hop with rfl | rfl
  · show (binOp .eql T x y).run P w = _
    rw [h1, Sem.run_bind, hq]; rfl
  · show (binOp .neq T x y).run P w = _
    rw [h2, Sem.run_bind, hq]; rfl
theorem aEq_ok {T : TypeId} {d e : D} {t : Bool} {x y : Value} (h : aEq (P.underlying T) d e = some t) (hx : Rep w S d x) (hy : Rep w S e y) :
    t = false ∧ ∀ op, (op = .eql ∨ op = .neq) → ∀ xo yo, (do eqGuard op T xo yo x y; binOp op T x y : Sem Value).run P w = .ok (.bool (match op with | .neq => true | _ => false)) w := by
  unfold aEq at h
  split at h
  · rename_i hT
    cases h; cases hx; cases hy
    refine ⟨rfl, unlike_ok ?_ (fun op xo yo => by unfold eqGuard; cases op <;> rfl) rfl rfl⟩
    show (Op.equalIn (9999 + 1) _ _ _).run P w = _
    rw [Op.equalIn]; simp [run_underlying hT]
  · rename_i hT
    cases h; cases hx; cases hy
    refine ⟨rfl, unlike_ok ?_ (fun op xo yo => by unfold eqGuard; cases op <;> rfl) rfl rfl⟩
    show (Op.equalIn (9999 + 1) _ _ _).run P w = _
    rw [Op.equalIn]; simp [run_underlying hT]
  · rename_i hT
    cases h; cases hx; cases hy
    refine ⟨rfl, unlike_ok ?_ (fun op xo yo => by unfold eqGuard; cases op <;> rfl) rfl rfl⟩
    show (Op.equalIn (9999 + 1) _ _ _).run P w = _
    rw [Op.equalIn]; simp [run_underlying hT]
  · rename_i hT
    cases h; cases hx; cases hy
    refine ⟨rfl, unlike_ok ?_ (fun op xo yo => by unfold eqGuard; cases op <;> rfl) rfl rfl⟩
    show (Op.equalIn (9999 + 1) _ _ _).run P w = _
    rw [Op.equalIn]; simp [run_underlying hT]
  · rename_i hT
    cases h; cases hx; cases hy
    refine ⟨rfl, unlike_ok ?_ (fun op xo yo => by unfold eqGuard; cases op <;> rfl) rfl rfl⟩
    show (Op.equalIn (9999 + 1) _ _ _).run P w = _
    rw [Op.equalIn]; simp [run_underlying hT]
  · rename_i hT
    cases h; cases hx; cases hy
    refine ⟨rfl, unlike_ok ?_ (fun op xo yo => by unfold eqGuard; cases op <;> rfl) rfl rfl⟩
    show (Op.equalIn (9999 + 1) _ _ _).run P w = _
    rw [Op.equalIn]; simp [run_underlying hT]
  · rename_i hT
    cases h; cases hx; cases hy
    refine ⟨rfl, unlike_ok ?_ (fun op xo yo => by unfold eqGuard; cases op <;> rfl) rfl rfl⟩
    show (Op.equalIn (9999 + 1) _ _ _).run P w = _
    rw [Op.equalIn]; simp [run_underlying hT]
  · rename_i hT
    cases h; cases hx; cases hy
    refine ⟨rfl, unlike_ok ?_ (fun op xo yo => by unfold eqGuard; cases op <;> rfl) rfl rfl⟩
    show (Op.equalIn (9999 + 1) _ _ _).run P w = _
    rw [Op.equalIn]; simp [run_underlying hT]
  · cases h
theorem aNil_ok {T : TypeId} {d e : D} {ok : Bool → Prop} {x y : Value} (h : aNil (P.underlying T) d e = some ok) (hx : Rep w S d x) (hy : Rep w S e y) :
    ∃ t, ok t ∧ ∀ op, (op = .eql ∨ op = .neq) → ∀ xo yo, (do eqGuard op T xo yo x y; binOp op T x y : Sem Value).run P w = .ok (.bool (match op with | .neq => !t | _ => t)) w := by
  have main : ∀ {t : Bool}, (Op.equal T x y).run P w = .ok t w → (∀ op xo yo, (eqGuard op T xo yo x y).run P w = .ok () w) →
    binOp .eql T x y = (do pure (.bool (← Op.equal T x y))) → binOp .neq T x y = (do pure (.bool (!(← Op.equal T x y)))) →
    ∀ op, (op = .eql ∨ op = .neq) → ∀ xo yo, (do eqGuard op T xo yo x y; binOp op T x y : Sem Value).run P w = .ok (.bool (match op with | .neq => !t | _ => t)) w := by
    intro t hq hg h1 h2 op hop xo yo
    rw [Sem.run_bind, hg]
    rcases hop with rfl | rfl
    · show (binOp .eql T x y).run P w = _
      rw [h1, Sem.run_bind, hq]; rfl
    · show (binOp .neq T x y).run P w = _
      rw [h2, Sem.run_bind, hq]; rfl
  have key : ∀ (elem : TypeId) (ad : Option Addr) (n cap : Nat), P.underlying T = some (.slice elem) → x = .slice ad n cap → y = .slice none 0 0 → ∀ ok : Bool → Prop, ok ad.isNone →
    ∃ t, ok t ∧ ∀ op, (op = .eql ∨ op = .neq) → ∀ xo yo, (do eqGuard op T xo yo x y; binOp op T x y : Sem Value).run P w = .ok (.bool (match op with | .neq => !t | _ => t)) w := by
    intro elem ad n cap hT hx hy ok hok
    subst hx; subst hy
    refine ⟨ad.isNone, hok, main ?_ (fun op xo yo => by unfold eqGuard; cases op <;> rfl) rfl rfl⟩
    show (Op.equalIn (9999 + 1) _ _ _).run P w = _
    rw [Op.equalIn]
    cases ad <;> simp [run_underlying hT]
  unfold aNil at h
  split at h
  · rename_i hT
    cases h
    obtain ⟨ad, cap, hxe, _, hn⟩ := slc_inv hx
    refine key _ ad _ cap hT hxe hy.v_inv _ fun hne => ?_
    rcases hn with hn | ⟨b, off, sz, vals, rfl, _⟩
    · exact absurd hn hne
    · rfl
  · rename_i hT
    cases h
    obtain ⟨ad, hxe, _⟩ := own0_inv hx
    exact key _ ad _ _ hT hxe hy.v_inv _ trivial
  · cases h
theorem ifcNil_eq {d : Option TypeDesc} {x y : D} (h : ifcNil d x y = true) : aEq d x y = some false := by
  unfold ifcNil at h
  split at h
  · unfold isIfc at h
    split at h
    · rfl
    · cases h
  · cases h
theorem s_binOp (h : Sim C env σ w S a.tmps) (hd0 : a.defers = C.ds) (hN : dstOk N o.dst) (hnx : ∀ a w, NX C next a w → nx a w) {op : BinOp} {T T2 : TypeId} {x y : Operand} (ho : o.op = .binOp op T x y T2)
    (hv : vcRes P Qp next o.dst env σ (aBin P op T x y (ev env x) (ev env y))) : o.wp P a w nx Q := by
  have hx := ev_rep h x
  have hy := ev_rep h y
  unfold aBin at hv
  split at hv
  · rename_i hn
    have ht := ifcNil_eq hn
    obtain ⟨_, hrun⟩ := aEq_ok ht hx hy
    refine step_val h hd0 hN hnx (v := .bool false) ?_ (.v rfl) hv.2
    have := hrun .eql (.inl rfl) x y
    simp only [execOp, ho]; rw [Sem.run_bind, this]; rfl
  · rename_i hn
    have ht := ifcNil_eq hn
    obtain ⟨_, hrun⟩ := aEq_ok ht hx hy
    refine step_val h hd0 hN hnx (v := .bool true) ?_ (.v rfl) hv.2
    have := hrun .neq (.inr rfl) x y
    simp only [execOp, ho]; rw [Sem.run_bind, this]; rfl
  rename_i n1 n2
  clear n1 n2
  unfold aBin0 at hv
  split at hv
  · rename_i u v hu hv'
    obtain ⟨d, z, hrun, hrep, hk⟩ := scal_ok hv w S
    have e1 := toV_rep hu hx
    have e2 := toV_rep hv' hy
    exact step_val h hd0 hN hnx (v := z) (by simp only [execOp, ho, e1, e2]; rw [Sem.run_bind, hrun]; rfl) hrep hk
  · split at hv
    · rename_i t ht
      obtain ⟨rfl, hrun⟩ := aEq_ok ht hx hy
      refine step_val h hd0 hN hnx (v := .bool false) ?_ (.v rfl) hv.2
      have := hrun .eql (.inl rfl) x y
      simp only [execOp, ho]; rw [Sem.run_bind, this]; rfl
    · rename_i t ht
      obtain ⟨rfl, hrun⟩ := aEq_ok ht hx hy
      refine step_val h hd0 hN hnx (v := .bool true) ?_ (.v rfl) hv.2
      have := hrun .neq (.inr rfl) x y
      simp only [execOp, ho]; rw [Sem.run_bind, this]; rfl
    · split at hv
      · obtain ⟨t, ht, hrun⟩ := aNil_ok (by assumption) hx hy
        refine step_val h hd0 hN hnx (v := .bool t) ?_ (.v rfl) (hv t ht)
        have := hrun .eql (.inl rfl) x y
        simp only [execOp, ho]; rw [Sem.run_bind, this]; rfl
      · obtain ⟨t, ht, hrun⟩ := aNil_ok (by assumption) hx hy
        refine step_val h hd0 hN hnx (v := .bool (!t)) ?_ (.v rfl) (hv t ht)
        have := hrun .neq (.inr rfl) x y
        simp only [execOp, ho]; rw [Sem.run_bind, this]; rfl
      · exact hv.elim
theorem s_indexAddr (h : Sim C env σ w S a.tmps) (hd0 : a.defers = C.ds) (hN : dstOk N o.dst) (hnx : ∀ a w, NX C next a w → nx a w) {T : TypeId} {x y : Operand} (ho : o.op = .indexAddr T x y)
    (hv : vcRes P Qp next o.dst env σ (aIndexAddr P T (ev env x) (ev env y))) : o.wp P a w nx Q := by
  have hx := ev_rep h x
  have hy := ev_rep h y
  unfold aIndexAddr at hv
  split at hv
  · rename_i e i he hi
    have hT := relem_eq he
    have hyv : ∃ k, a.eval y = .int k i := by
      unfold ixOf at hi
      split at hi
      · rename_i k n hyd; cases hi; rw [hyd] at hy; exact ⟨k, hy.v_inv⟩
      · cases hi
    obtain ⟨k, hyv⟩ := hyv
    split at hv
    · rename_i n xs hn hd
      rw [hd] at hx
      obtain ⟨⟨h0, h1, h2⟩, hk⟩ := hv
      obtain ⟨ad, cap, hev, hcap, hnil | ⟨b, off, sz, vals, rfl, hb, hr, hc, hs⟩⟩ := slc_inv hx
      · subst hnil; simp at h1; omega
      · have hil : i.toNat < xs.length := by omega
        have hsz : n = sz := by rw [← h2, getD_lt _ _ _ hil]; exact hs _ (List.getElem_mem hil)
        subst hsz
        refine step_val h hd0 hN hnx (v := .pointer (some ⟨b, off + i.toNat * n, none⟩)) ?_ (.elt hb (vals := (vals.drop (i.toNat * n)).take n) ?_ ?_) hk
        · have hadd : (⟨b, off, none⟩ : Addr).add (i.toNat * n) = ⟨b, off + i.toNat * n, none⟩ := by
            unfold Addr.add; split <;> simp_all
          simp only [execOp, ho, hev, hyv]
          simp [Instr.indexAt, asIntOf, run_underlying hT, run_sizeOf hn, h0, h1, hadd]
        · have hseg : ((flat xs).drop (i.toNat * n)).take n = (xs.getD i.toNat .any).cells := by
            apply List.ext_getElem?
            intro j
            rw [List.getElem?_take]
            by_cases hj : j < n
            · rw [if_pos hj, List.getElem?_drop, flat_getD xs n hs i.toNat hil j hj]
            · rw [if_neg hj, List.getElem?_eq_none (by omega)]
          rw [← hseg]
          exact (hr.drop _).take _
        · intro j v hj
          rw [List.getElem?_take] at hj
          split at hj
          · rw [List.getElem?_drop] at hj
            rw [show off + i.toNat * n + j = off + (i.toNat * n + j) by omega]
            exact hc _ v hj
          · cases hj
    · rename_i n b sz len hn hd
      rw [hd] at hx
      obtain ⟨⟨h0, h1, h2⟩, hk⟩ := hv
      subst h2
      obtain ⟨cap, c, e', fr, hev, hcap, hh, hcs⟩ := own_inv hx
      refine step_val h hd0 hN hnx (v := .pointer (some ⟨b, i.toNat * sz + 0, none⟩)) ?_ .ptr hk
      have hadd : (⟨b, 0, none⟩ : Addr).add (i.toNat * sz) = ⟨b, i.toNat * sz, none⟩ := by
        unfold Addr.add; split <;> simp_all
      simp only [execOp, ho, hev, hyv]
      simp [Instr.indexAt, asIntOf, run_underlying hT, run_sizeOf hn, h0, h1, hadd]
    · rename_i n b sz off len hn hd
      rw [hd] at hx
      obtain ⟨⟨h0, h1, h2⟩, hk⟩ := hv
      subst h2
      obtain ⟨cap, hev⟩ := win_pos hx (by omega)
      refine step_val h hd0 hN hnx (v := .pointer (some ⟨b, (off + i.toNat) * sz + 0, none⟩)) ?_ .ptr hk
      have hadd : (⟨b, off * sz, none⟩ : Addr).add (i.toNat * sz) = ⟨b, (off + i.toNat) * sz, none⟩ := by
        rw [Nat.add_mul]; unfold Addr.add; split <;> simp_all
      simp only [execOp, ho, hev, hyv]
      simp [Instr.indexAt, asIntOf, run_underlying hT, run_sizeOf hn, h0, h1, hadd]
    · exact hv.elim
  · rename_i i he hi
    have hyv : ∃ k, a.eval y = .int k i := by
      unfold ixOf at hi
      split at hi
      · rename_i k n hyd; cases hi; rw [hyd] at hy; exact ⟨k, hy.v_inv⟩
      · cases hi
    obtain ⟨k, hyv⟩ := hyv
    have harr : ∀ {len n : Nat}, rarr P T = some (len, n) → ∃ e, P.underlying T = some (.array len e) ∧ rsize P e = some n := by
      intro len n h
      unfold rarr at h
      split at h
      · rename_i m e he'
        obtain ⟨k', hk', hk2⟩ := Option.map_eq_some_iff.1 h
        cases hk2
        exact ⟨e, he', hk'⟩
      · cases h
    split at hv
    · rename_i len n b sz j hr hd
      rw [hd] at hx
      obtain ⟨⟨h0, h1, h2⟩, hk⟩ := hv
      subst h2
      obtain ⟨e, hT, hn⟩ := harr hr
      have hev := ptr_inv hx
      refine step_val h hd0 hN hnx (v := .pointer (some ⟨b, (j + i.toNat) * sz + 0, none⟩)) ?_ .ptr hk
      have hadd : (⟨b, j * sz + 0, none⟩ : Addr).add (i.toNat * sz) = ⟨b, (j + i.toNat) * sz, none⟩ := by
        rw [Nat.add_mul]; unfold Addr.add; split <;> simp_all
      simp only [execOp, ho, hev, hyv]
      simp only [Nat.add_zero] at hadd ⊢
      simp [Instr.indexAt, Instr.sureAddr, asIntOf, run_underlying hT, run_sizeOf hn, h0, h1, hadd]
    · rename_i len n cs hr hd
      rw [hd] at hx
      obtain ⟨⟨h0, h1, h2⟩, hk⟩ := hv
      obtain ⟨e, hT, hn⟩ := harr hr
      obtain ⟨b, off, vals, hev, hb, hrl, hc⟩ := elt_inv hx
      refine step_val h hd0 hN hnx (v := .pointer (some ⟨b, off + i.toNat * n, none⟩)) ?_ (.elt hb (hrl.drop (i.toNat * n)) fun j v hj => ?_) hk
      · have hadd : (⟨b, off, none⟩ : Addr).add (i.toNat * n) = ⟨b, off + i.toNat * n, none⟩ := by
          unfold Addr.add; split <;> simp_all
        simp only [execOp, ho, hev, hyv]
        simp [Instr.indexAt, Instr.sureAddr, asIntOf, run_underlying hT, run_sizeOf hn, h0, h1, hadd]
      · rw [List.getElem?_drop] at hj
        rw [Nat.add_assoc]
        exact hc _ v hj
    · exact hv.elim
  · exact hv.elim
theorem ixOf_rep {d : D} {i : Int} {v : Value} (hi : ixOf d = some i) (hr : Rep w S d v) : ∃ k, v = .int k i := by
  unfold ixOf at hi
  split at hi
  · rename_i k n; cases hi; exact ⟨k, hr.v_inv⟩
  · cases hi
theorem s_index (h : Sim C env σ w S a.tmps) (hd0 : a.defers = C.ds) (hN : dstOk N o.dst) (hnx : ∀ a w, NX C next a w → nx a w) {T : TypeId} {x y : Operand} (ho : o.op = .index T x y)
    (hv : vcRes P Qp next o.dst env σ (aIndex P T (ev env x) (ev env y))) : o.wp P a w nx Q := by
  have hx := ev_rep h x
  have hy := ev_rep h y
  unfold aIndex at hv
  split at hv
  · rename_i s i hd hi
    rw [hd] at hx
    obtain ⟨k, hyv⟩ := ixOf_rep hi hy
    obtain ⟨⟨ht, h0, h1⟩, hk⟩ := hv
    have hlt : i.toNat < s.size := by omega
    refine step_val h hd0 hN hnx (v := .int .u8 ((s.data.toList.getD i.toNat 0).toNat : Int)) ?_ (.v rfl) hk
    have hsg : s[i.toNat]? = some (s.data.toList.getD i.toNat 0) := by
      have h2 : i.toNat < s.data.size := hlt
      rw [getD_lt _ _ _ (by simpa using h2)]
      simp [getElem?_pos, hlt]
      rfl
    simp only [execOp, ho, hx.v_inv, hyv]
    simp [Instr.index, asIntOf, run_underlying (isStr_eq ht), h0, hsg]
  · exact hv.elim
end steps
end Go.Ab
namespace Go.Ab
open Go
section
variable {P : Program} {w : World} {S : Nat → Prop}
theorem isByte_rep {d : D} {v : Value} (h : isByte d = true) (hr : Rep w S d v) : v = .int .u8 ((byteOf d).toNat : Int) := by
  unfold isByte at h
  split at h
  · rename_i n
    rw [hr.v_inv]
    simp only [decide_eq_true_eq] at h
    simp only [byteOf]
    congr 1
    have : n.toNat < 256 := by omega
    rw [UInt8.toNat_ofNat_of_lt' (by simpa using this)]
    omega
  · cases h
theorem isByte_cells {d : D} (h : isByte d = true) : d.cells = [d] := by
  unfold isByte at h
  split at h
  · rfl
  · cases h
theorem flat_bytes : ∀ (xs : List D), xs.all isByte = true → flat xs = xs
  | [], _ => rfl
  | x :: xs, h => by
    simp only [List.all_cons, Bool.and_eq_true] at h
    rw [flat_cons, isByte_cells h.1, flat_bytes xs h.2]; rfl
theorem bytes_get {xs : List D} {vals : List Value} (h : xs.all isByte = true) (hr : RepL w S xs vals) (j : Nat) (hj : j < (xs.map byteOf).length) : vals[j]? = some (.int .u8 (((xs.map byteOf)[j]).toNat : Int)) := by
  have hj' : j < xs.length := by simpa using hj
  obtain ⟨v, hv, hrep⟩ := hr.get j xs[j] (by simp)
  rw [hv]
  have hb : isByte xs[j] = true := (List.all_eq_true.1 h) _ (List.getElem_mem hj')
  rw [isByte_rep hb hrep]
  simp
theorem run_bytes_back {src dst : TypeId} {ad : Option Addr} {xs : List D} {cap : Nat} (hs : isByteSlice P src = true) (hd : isStr P dst = true)
    (hc : ∀ (j : Nat) (hj : j < (xs.map byteOf).length), ∃ a, ad = some a ∧ w.cell? (a.add j) = some (.int .u8 (((xs.map byteOf)[j]).toNat : Int))) :
    (convert src dst (.slice ad xs.length cap)).run P w = .ok (.string (bytesOf xs)) w := by
  obtain ⟨e, he1, he2⟩ := isByteSlice_eq hs
  have hdst := isStr_eq hd
  cases xs with
  | nil =>
    cases ad with
    | none => simp [convert, run_underlying he1, run_underlying hdst, run_underlying he2, Conv.bytesToString, bytesOf]; rfl
    | some a =>
      have := run_convert_bytes_back (P := P) w src dst e a cap [] he1 he2 hdst (fun j hj => by simp at hj)
      simpa [bytesOf] using this
  | cons x xs =>
    obtain ⟨a, rfl, _⟩ := hc 0 (by simp)
    have := run_convert_bytes_back (P := P) w src dst e a cap ((x :: xs).map byteOf) he1 he2 hdst (fun j hj => by
      obtain ⟨a', ha, h⟩ := hc j hj
      cases ha
      exact h)
    simpa [bytesOf] using this
theorem add_block (b off j : Nat) : (⟨b, off, none⟩ : Addr).add j = ⟨b, off + j, none⟩ := by unfold Addr.add; split <;> simp_all
theorem isByte_bD (c : UInt8) : isByte (bD c) = true := by
  have : c.toNat < 256 := c.toNat_lt
  simp [isByte, bD]; omega
theorem byteOf_bD (c : UInt8) : byteOf (bD c) = c := by
  simp [byteOf, bD]
theorem repL_bD : ∀ (l : List UInt8), RepL w S (l.map bD) (l.map fun c => .int .u8 (c.toNat : Int))
  | [] => .nil
  | _ :: l => .cons (.v rfl) (repL_bD l)
theorem flat_bD (l : List UInt8) : flat (l.map bD) = l.map bD := flat_bytes _ (by simp [isByte_bD])
end
section steps
variable {P : Program} {N : Slots} {C : Ctx P N} {env : Env} {σ : Store} {a : Act} {w : World} {S : Nat → Prop} {o : Oper}
variable {Qp : D → Store → Prop} {next : Env → Store → Prop} {nx : Act → World → Prop} {Q : Exit → Act → World → Prop}
theorem fr_drew (hl : ∀ b, S b → b < w.heap.size) (σ : Store) : Fr w S (sdom σ) w.drew S σ :=
  ⟨rfl, rfl, rfl, Nat.le_refl _, Shape.refl w, fun _ _ _ => rfl, fun _ h => h, fun _ h => .inl h, fun _ h => .inl h, hl⟩
theorem store_drew (h : RepStore w S σ) : RepStore w.drew S σ := fun b o hb => by
  obtain ⟨h1, h2⟩ := h b o hb
  exact ⟨h1, h2.ev ⟨fun _ h => h, fun _ _ => rfl, Shape.refl w⟩ rfl⟩
theorem step_drew_new (h : Sim C env σ w S a.tmps) (hd0 : a.defers = C.ds) (hN : dstOk N o.dst) {ob : Obj} {x : AObj} {d : D} {v : Value}
    (hnx : ∀ a w, NX C next a w → nx a w) (hrun : (execOp a.eval o).run P w = .ok (.value v) (w.drew.alloc ob)) (hx : RepObj (w.drew.alloc ob) S w.heap.size x) (hd : Rep (w.drew.alloc ob) S d v)
    (hn : next (eputo o.dst d env) ((w.heap.size, x) :: σ)) : o.wp P a w nx Q := by
  have h' : Sim C env σ w.drew S a.tmps := ⟨h.env.ev (sim_ev h (fr_drew h.fr.lt σ)), store_drew h.store, h.fr.trans (fr_drew h.fr.lt σ), h.size⟩
  refine step_ok h hd0 hN hnx hrun hd (store_alloc (store_drew h.store) h.fr.lt ob x hx) ?_ hn
  exact (fr_drew h.fr.lt σ).trans (fr_alloc h' ob x)
theorem s_convert (h : Sim C env σ w S a.tmps) (hd0 : a.defers = C.ds) (hN : dstOk N o.dst) (hnx : ∀ a w, NX C next a w → nx a w) {src dst : TypeId} {x : Operand} (ho : o.op = .convert src dst x)
    (hv : vcRes P Qp next o.dst env σ (aConv P σ src dst (ev env x))) : o.wp P a w nx Q := by
  have hx := ev_rep h x
  unfold aConv at hv
  split at hv
  · rename_i xs hd
    rw [hd] at hx
    obtain ⟨⟨h1, h2, h3⟩, hk⟩ := hv
    obtain ⟨ad, cap, hev, hcap, hcase⟩ := slc_inv hx
    refine step_val h hd0 hN hnx (v := .string (bytesOf xs)) ?_ (.v rfl) hk
    have hrun : (convert src dst (.slice ad xs.length cap)).run P w = .ok (.string (bytesOf xs)) w := run_bytes_back h1 h2 (fun j hj => by
      rcases hcase with rfl | ⟨b, off, sz, vals, rfl, hb, hr, hc, hs⟩
      · simp at hj
      · refine ⟨_, rfl, ?_⟩
        rw [add_block]
        rw [flat_bytes xs h3] at hr
        exact hc j _ (bytes_get h3 hr j hj))
    simp [execOp, ho, hev, hrun]
  · rename_i ob sz n hd
    rw [hd] at hx
    split at hv
    · rename_i xs hs
      obtain ⟨⟨h1, h2, h3, h4⟩, hk⟩ := hv
      refine step_val h hd0 hN hnx (v := .string (bytesOf (xs.take n))) ?_ (.v rfl) hk
      cases ob with
      | none =>
        obtain ⟨ad, hev, rfl⟩ := own0_inv hx
        have hrun : (convert src dst (.slice ad 0 0)).run P w = .ok (.string (bytesOf [])) w := run_bytes_back (xs := []) h1 h2 (fun j hj => by simp at hj)
        simp only [execOp, ho, hev]
        rw [Sem.run_bind, hrun]; rfl
      | some b =>
        obtain ⟨cap, c, e, fr, hev, hcap, hh, hcs⟩ := own_inv hx
        simp only [oget] at hs
        split at hs
        · rename_i s ys hg
          split at hs
          · rename_i hs1
            cases hs; subst hs1
            have hobj := (h.store b _ hg).2
            have h3' : (xs.take n).all isByte = true := by
              rw [List.all_eq_true] at h3 ⊢
              exact fun y hy => h3 y (List.mem_of_mem_take hy)
            have hrun : (convert src dst (.slice (some ⟨b, 0, none⟩) (xs.take n).length cap)).run P w = .ok (.string (bytesOf (xs.take n))) w := run_bytes_back h1 h2 (fun j hj => by
              refine ⟨_, rfl, ?_⟩
              rw [add_block, Nat.zero_add]
              have hj' : j < xs.length := by simp at hj; omega
              have hjn : j < n := by simp at hj; omega
              obtain ⟨v, hv, hrep⟩ := arr_cell hobj hj' 0 0 xs[j] (by
                have hb := (List.all_eq_true.1 h3) _ (List.getElem_mem hj')
                rw [getD_lt _ _ _ hj', isByte_cells hb]; simp)
              simp only [Nat.mul_one, Nat.add_zero] at hv
              rw [hv, isByte_rep ((List.all_eq_true.1 h3) _ (List.getElem_mem hj')) hrep]
              simp)
            rw [List.length_take, Nat.min_eq_left h4] at hrun
            simp [execOp, ho, hev, hrun]
          · cases hs
        · cases hs
    · exact hv.elim
  · rename_i b sz off n hd
    rw [hd] at hx
    split at hv
    · rename_i xs hs
      obtain ⟨⟨h1, h2, h3, h4, hsz⟩, hk⟩ := hv
      refine step_val h hd0 hN hnx (v := .string (bytesOf ((xs.drop off).take n))) ?_ (.v rfl) hk
      rcases win_inv hx with ⟨ad, cap, hev, rfl⟩ | ⟨cap, c, e, fr, hev, hcap, hh, hcs, hcm⟩
      · have hrun : (convert src dst (.slice ad 0 cap)).run P w = .ok (.string (bytesOf [])) w := run_bytes_back (xs := []) h1 h2 (fun j hj => by simp at hj)
        simp only [execOp, ho, hev]
        rw [Sem.run_bind, hrun]; rfl
      · simp only [oget] at hs
        split at hs
        · rename_i s ys hg
          split at hs
          · rename_i hs1
            cases hs; subst hs1
            have hobj := (h.store b _ hg).2
            have h3' : ((xs.drop off).take n).all isByte = true := by
              rw [List.all_eq_true] at h3 ⊢
              exact fun y hy => h3 y (List.mem_of_mem_drop (List.mem_of_mem_take hy))
            have hlen : ((xs.drop off).take n).length = n := by simp; omega
            subst hsz
            have hrun : (convert src dst (.slice (some ⟨b, off, none⟩) ((xs.drop off).take n).length cap)).run P w = .ok (.string (bytesOf ((xs.drop off).take n))) w := run_bytes_back h1 h2 (fun j hj => by
              refine ⟨_, rfl, ?_⟩
              rw [add_block]
              have hjn : j < n := by simp at hj; omega
              have hj' : off + j < xs.length := by omega
              obtain ⟨v, hv, hrep⟩ := arr_cell hobj hj' 0 0 xs[off + j] (by
                have hb := (List.all_eq_true.1 h3) _ (List.getElem_mem hj')
                rw [getD_lt _ _ _ hj', isByte_cells hb]; simp)
              simp only [Nat.mul_one, Nat.add_zero] at hv
              rw [hv, isByte_rep ((List.all_eq_true.1 h3) _ (List.getElem_mem hj')) hrep]
              simp)
            rw [hlen] at hrun
            simp [execOp, ho, hev, hrun]
          · cases hs
        · cases hs
    · exact hv.elim
  · rename_i s hd
    rw [hd] at hx
    split at hv
    · rename_i hc
      obtain ⟨e, he1, he2⟩ := isByteSlice_eq hc.1
      have hrun := run_bytes_of_string (P := P) w src dst e s (isStr_eq hc.2) he1 he2
      generalize hg : grownCap w s.size 0 e = cap at hrun
      have hcap : s.size ≤ cap := by have := grownCap_ge w s.size 0 e; omega
      have hbs : (bytesRow s cap).size = cap := by simp [bytesRow]; have : s.data.size = s.size := rfl; omega
      refine step_drew_new h hd0 hN hnx (v := .slice (some ⟨w.heap.size, 0, none⟩) s.size cap) ?_ ?_ ?_ (hv.2 _ (not_sdom_size h.store)) (ob := .cells (bytesRow s cap) e ((bytesRow s cap).size, (bytesRow s cap).size + 1))
      · simp only [execOp, ho, hx.v_inv]; rw [Sem.run_bind, hrun]; rfl
      · refine ⟨_, _, _, _, s.data.toList.map fun c => .int .u8 (c.toNat : Int), heap_alloc w.drew _, ?_, ?_, ?_, .inr (Nat.le_refl _)⟩
        · rw [flat_bD]; exact repL_bD _
        · intro k v hk
          have hk' := (List.getElem?_eq_some_iff.1 hk).1
          simp only [List.length_map, Array.length_toList] at hk'
          rw [bytesRow, Array.getElem?_append_left (by simpa using hk')]
          simpa using hk
        · intro y hy
          obtain ⟨c, _, rfl⟩ := List.mem_map.1 hy
          rfl
      · exact Rep.own (heap_alloc w.drew _) hcap (by rw [hbs]; omega) (by have h46 := hv.1; have := grownCap_le_maxLen w s.size 0 e (by unfold maxLen; omega); rw [hg] at this; exact this)
    · obtain ⟨d, v, hrun, hrep, hk⟩ := scal_ok hv w S
      exact step_val h hd0 hN hnx (v := v) (by simp only [execOp, ho, hx.v_inv]; rw [Sem.run_bind, hrun]; rfl) hrep hk
  · rename_i y _ hd
    rw [hd] at hx
    obtain ⟨d, v, hrun, hrep, hk⟩ := scal_ok hv w S
    exact step_val h hd0 hN hnx (v := v) (by simp only [execOp, ho, hx.v_inv]; rw [Sem.run_bind, hrun]; rfl) hrep hk
  · exact hv.elim
end steps
end Go.Ab
namespace Go.Ab
open Go
section
variable {P : Program} {w : World} {S : Nat → Prop}
theorem optIx_rep {lo : Option D} {vo : Option Value} {z l : Int} (h : optIx lo z = some l) (hr : ∀ d, lo = some d → ∃ v, vo = some v ∧ Rep w S d v) (hn : lo = none → vo = none) :
    (vo = none ∧ l = z) ∨ ∃ k, vo = some (.int k l) := by
  cases lo with
  | none => simp [optIx] at h; exact .inl ⟨hn rfl, h.symm⟩
  | some d =>
    obtain ⟨v, rfl, hv⟩ := hr d rfl
    obtain ⟨k, rfl⟩ := ixOf_rep h hv
    exact .inr ⟨k, rfl⟩
theorem run_bounds {isSlice : Bool} {len cap : Nat} {lo hi : Option Value} {l h : Int} (hlo : (lo = none ∧ l = 0) ∨ ∃ k, lo = some (.int k l)) (hhi : (hi = none ∧ h = len) ∨ ∃ k, hi = some (.int k h))
    (h0 : 0 ≤ l) (h1 : l ≤ h) (h2 : h ≤ cap) : (Instr.sliceBounds isSlice len cap lo hi none).run P w = .ok (l.toNat, h.toNat, cap) w := by
  have eh : (h.toNat : Int) = h := Int.toNat_of_nonneg (by omega)
  have h3 : 0 ≤ h := by omega
  have h4 : l ≤ (h.toNat : Int) := by omega
  rcases hlo with ⟨rfl, rfl⟩ | ⟨kl, rfl⟩ <;> rcases hhi with ⟨rfl, rfl⟩ | ⟨kh, rfl⟩
  · simp [Instr.sliceBounds]
  · cases isSlice <;> simp [Instr.sliceBounds, run_sliceBound w kh h cap _ h3 h2]
  · simp [Instr.sliceBounds, run_sliceBound w kl l len _ h0 h1]
  · cases isSlice <;> simp [Instr.sliceBounds, run_sliceBound w kh h cap _ h3 h2, run_sliceBound w kl l h.toNat _ h0 h4]
theorem flat_drop {sz : Nat} : ∀ (ys : List D) (k : Nat), (∀ y ∈ ys, y.cells.length = sz) → flat (ys.drop k) = (flat ys).drop (k * sz)
  | [], k, _ => by simp
  | y :: ys, 0, _ => by simp
  | y :: ys, k + 1, hy => by
    have h1 : y.cells.length = sz := hy y (by simp)
    have h2 : y.cells.drop ((k + 1) * sz) = [] := List.drop_of_length_le (by rw [h1, Nat.succ_mul]; omega)
    rw [List.drop_succ_cons, flat_drop ys k (fun z hz => hy z (by simp [hz])), flat_cons, List.drop_append, h2, h1, show (k + 1) * sz - sz = k * sz by rw [Nat.succ_mul]; omega]
    simp
theorem flat_take {sz : Nat} : ∀ (ys : List D) (k : Nat), (∀ y ∈ ys, y.cells.length = sz) → flat (ys.take k) = (flat ys).take (k * sz)
  | [], k, _ => by simp
  | y :: ys, 0, _ => by simp
  | y :: ys, k + 1, hy => by
    have h1 : y.cells.length = sz := hy y (by simp)
    have h2 : y.cells.take ((k + 1) * sz) = y.cells := List.take_of_length_le (by rw [h1, Nat.succ_mul]; omega)
    rw [List.take_succ_cons, flat_cons, flat_take ys k (fun z hz => hy z (by simp [hz])), flat_cons, List.take_append, h2, h1, show (k + 1) * sz - sz = k * sz by rw [Nat.succ_mul]; omega]
end
section steps
variable {P : Program} {N : Slots} {C : Ctx P N} {env : Env} {σ : Store} {a : Act} {w : World} {S : Nat → Prop} {o : Oper}
variable {Qp : D → Store → Prop} {next : Env → Store → Prop} {nx : Act → World → Prop} {Q : Exit → Act → World → Prop}
theorem opt_rep (h : Sim C env σ w S a.tmps) (lo : Option Operand) : (∀ d, lo.map (ev env) = some d → ∃ v, lo.map a.eval = some v ∧ Rep w S d v) ∧ (lo.map (ev env) = none → lo.map a.eval = none) := by
  cases lo with
  | none => exact ⟨fun d hd => (nomatch hd), fun _ => rfl⟩
  | some x => exact ⟨fun d hd => by cases hd; exact ⟨_, rfl, ev_rep h x⟩, fun hd => (nomatch hd)⟩
theorem run_cut {T e : TypeId} {n : Nat} {ad : Option Addr} {len cap : Nat} {lo hi mx : Option Value} {l h m : Nat} (he : relem P T = some e) (hn : rsize P e = some n)
    (hb : (Instr.sliceBounds true len cap lo hi mx).run P w = .ok (l, h, m) w) :
    (Instr.sliceAt T (.slice ad len cap) lo hi mx).run P w = .ok (.slice (if m = l then ad else ad.map (·.add (l * n))) (h - l) (m - l)) w := by
  simp only [Instr.sliceAt, Sem.run_bind, run_underlying (relem_eq he), Result.andThen]
  simp only [Instr.slice, Sem.run_bind, run_underlying (relem_eq he), Result.andThen]
  simp [hb, run_sizeOf hn]
theorem s_sliceArr (h : Sim C env σ w S a.tmps) (hd0 : a.defers = C.ds) (hN : dstOk N o.dst) (hnx : ∀ a w, NX C next a w → nx a w) {T : TypeId} {x : Operand} {lo hi mx : Option Operand} (ho : o.op = .slice T x lo hi mx) {b sz j i : Nat} (hd : ev env x = .ptr b sz j i)
    (hv : vcRes P Qp next o.dst env σ (aSliceArr P σ T b sz j i (lo.map (ev env)) (hi.map (ev env)) (mx.map (ev env)))) : o.wp P a w nx Q := by
  have hx := ev_rep h x
  rw [hd] at hx
  obtain ⟨rlo1, rlo2⟩ := opt_rep h lo
  obtain ⟨rhi1, rhi2⟩ := opt_rep h hi
  obtain ⟨rmx1, rmx2⟩ := opt_rep h mx
  unfold aSliceArr at hv
  split at hv
  · rename_i len n hm hr
    split at hv
    · rename_i l hh sz' xs hl0 hh0 hs
      obtain ⟨⟨h0, h1, h2, rfl, rfl, h5, h6⟩, hk⟩ := hv
      have harr : ∃ e, P.underlying T = some (.array len e) ∧ rsize P e = some sz' := by
        unfold rarr at hr
        split at hr
        · rename_i m e he'
          obtain ⟨k', hk', hk2⟩ := Option.map_eq_some_iff.1 hr
          cases hk2
          exact ⟨e, he', hk'⟩
        · cases hr
      obtain ⟨e, hT, hn⟩ := harr
      have hev := ptr_inv hx
      have hb := run_bounds (P := P) (w := w) (isSlice := false) (len := len) (cap := len) (optIx_rep hl0 rlo1 rlo2) (optIx_rep hh0 rhi1 rhi2) h0 h1 h2
      obtain ⟨c, e', lo', hi', vals, hh', hrl, hc, hsz, hfz⟩ := (h.store b _ hs).2
      have hrow : (j + len) * sz' ≤ c.size := by
        have hvl : vals.length = xs.length * sz' := by rw [hrl.length, flat_length xs sz' hsz]
        have hle : (j + len) * sz' ≤ vals.length := by rw [hvl]; exact Nat.mul_le_mul_right _ h5
        rcases Nat.eq_zero_or_pos ((j + len) * sz') with hz | hz
        · omega
        · obtain ⟨v, hv⟩ : ∃ v, vals[(j + len) * sz' - 1]? = some v := ⟨vals[(j + len) * sz' - 1]'(by omega), List.getElem?_eq_getElem _⟩
          have := (Array.getElem?_eq_some_iff.1 (hc _ v hv)).1
          omega
      refine step_val h hd0 hN hnx (v := .slice (some (if len = l.toNat then (⟨b, j * sz' + 0, none⟩ : Addr) else (⟨b, j * sz' + 0, none⟩ : Addr).add (l.toNat * sz'))) (hh.toNat - l.toNat) (len - l.toNat)) ?_ ?_ hk
      · simp only [execOp, ho, hev]
        rw [rmx2 hm]
        simp only [Instr.sliceAt, Sem.run_bind, run_underlying hT, Result.andThen, Instr.sureAddr]
        simp [hb, run_sizeOf hn]
      · have hlh : (hh - l).toNat = hh.toNat - l.toNat := by omega
        rw [hlh]
        by_cases hz : hh.toNat - l.toNat = 0
        · rw [hz]; exact .win0
        · rw [if_neg (by omega), add_block, Nat.add_zero, ← Nat.add_mul]
          exact Rep.win hh' (by omega) (Nat.le_trans (Nat.mul_le_mul_right _ (by omega)) hrow) (by omega)
    · exact hv.elim
  · exact hv.elim
theorem s_slice (h : Sim C env σ w S a.tmps) (hd0 : a.defers = C.ds) (hN : dstOk N o.dst) (hnx : ∀ a w, NX C next a w → nx a w) {T : TypeId} {x : Operand} {lo hi mx : Option Operand} (ho : o.op = .slice T x lo hi mx)
    (hv : vcRes P Qp next o.dst env σ (aSlice P T (ev env x) (lo.map (ev env)) (hi.map (ev env)) (mx.map (ev env)))) : o.wp P a w nx Q := by
  have hx := ev_rep h x
  obtain ⟨rlo1, rlo2⟩ := opt_rep h lo
  obtain ⟨rhi1, rhi2⟩ := opt_rep h hi
  obtain ⟨rmx1, rmx2⟩ := opt_rep h mx
  have fin : ∀ {d v}, (Instr.sliceAt T (a.eval x) (lo.map a.eval) (hi.map a.eval) (mx.map a.eval)).run P w = .ok v w → Rep w S d v → next (eputo o.dst d env) σ → o.wp P a w nx Q :=
    fun hrun hrep hk => step_val h hd0 hN hnx (v := _) (by simp only [execOp, ho]; rw [Sem.run_bind, hrun]; rfl) hrep hk
  have cut0 : ∀ {ad : Option Addr} {len cap : Nat} {m : D}, a.eval x = .slice ad len cap → mx.map (ev env) = some m → vcRes P Qp next o.dst env σ (match optIx (lo.map (ev env)) 0, optIx (hi.map (ev env)) 1, ixOf m, (relem P T).bind (rsize P) with
      | some l, some h, some m, some n => .val (l = 0 ∧ h = 0 ∧ m = 0) (.own none n 0)
      | _, _, _, _ => .bad) → o.wp P a w nx Q := by
    intro ad len cap m hev hm hv
    split at hv
    · rename_i l hh m' n hl0 hh0 hm0 hn
      obtain ⟨⟨rfl, rfl, rfl⟩, hk⟩ := hv
      obtain ⟨e, he, hne⟩ := Option.bind_eq_some_iff.1 hn
      obtain ⟨vm, hvm, hrm⟩ := rmx1 m hm
      obtain ⟨km, rfl⟩ := ixOf_rep hm0 hrm
      have hlo := optIx_rep hl0 rlo1 rlo2
      have hhi := optIx_rep hh0 rhi1 rhi2
      have hb : (Instr.sliceBounds true len cap (lo.map a.eval) (hi.map a.eval) (mx.map a.eval)).run P w = .ok (0, 0, 0) w := by
        rcases hhi with ⟨_, h1⟩ | ⟨kh, hh⟩
        · cases h1
        · rw [hh, hvm]
          have e1 := run_sliceBound (P := P) w km 0 cap .slice3Acap (Int.le_refl _) (by omega)
          have e2 := run_sliceBound (P := P) w kh 0 0 .slice3B (Int.le_refl _) (Int.le_refl _)
          rcases hlo with ⟨h2, _⟩ | ⟨kl, h2⟩
          · rw [h2]; simp [Instr.sliceBounds, e1, e2]
          · have e3 := run_sliceBound (P := P) w kl 0 0 .slice3C (Int.le_refl _) (Int.le_refl _)
            rw [h2]; simp [Instr.sliceBounds, e1, e2, e3]
      exact fin (by rw [hev]; exact run_cut he hne hb) (by simpa using Rep.own0) hk
    · exact hv.elim
  unfold aSlice at hv
  split at hv
  · rename_i s hd hm
    rw [hd] at hx
    split at hv
    · rename_i l hh hl0 hh0
      obtain ⟨⟨ht, h0, h1, h2⟩, hk⟩ := hv
      have hb := run_bounds (P := P) (w := w) (isSlice := false) (len := s.size) (cap := s.size) (optIx_rep hl0 rlo1 rlo2) (optIx_rep hh0 rhi1 rhi2) h0 h1 h2
      refine fin (v := .string (s.extract l.toNat hh.toNat)) ?_ (.v rfl) hk
      rw [hx.v_inv, rmx2 hm]
      simp only [Instr.sliceAt, Sem.run_bind, run_underlying (isStr_eq ht), Result.andThen]
      simp only [Instr.slice, Sem.run_bind, run_underlying (isStr_eq ht), Result.andThen]
      simp [hb]
    · exact hv.elim
  · rename_i xs hd hm
    rw [hd] at hx
    split at hv
    · rename_i l hh n hl0 hh0 hn
      obtain ⟨⟨h0, h1, h2, h3⟩, hk⟩ := hv
      obtain ⟨e, he, hne⟩ := Option.bind_eq_some_iff.1 hn
      obtain ⟨ad, cap, hev, hcap, hcase⟩ := slc_inv hx
      have hb := run_bounds (P := P) (w := w) (isSlice := true) (len := xs.length) (cap := cap) (optIx_rep hl0 rlo1 rlo2) (optIx_rep hh0 rhi1 rhi2) h0 h1 (by omega)
      refine fin (v := .slice (if cap = l.toNat then ad else ad.map (·.add (l.toNat * n))) (hh.toNat - l.toNat) (cap - l.toNat)) ?_ ?_ hk
      · rw [hev, rmx2 hm]; exact run_cut he hne hb
      · have hlen : ((xs.take hh.toNat).drop l.toNat).length = hh.toNat - l.toNat := by simp; omega
        by_cases hz : hh.toNat - l.toNat = 0
        · have : (xs.take hh.toNat).drop l.toNat = [] := List.length_eq_zero_iff.1 (by omega)
          rw [this, hz]; exact .slc0
        · rcases hcase with rfl | ⟨b, off, sz, vals, rfl, hb', hr, hc, hs⟩
          · simp at h2; omega
          · have hsz : sz = n := by
              cases xs with
              | nil => simp at h2; omega
              | cons y ys => rw [← hs y (by simp), ← h3 y (by simp)]
            subst hsz
            rw [if_neg (by omega), ← hlen]
            simp only [Option.map_some, add_block]
            refine Rep.slc hb' (vals := (vals.take (hh.toNat * sz)).drop (l.toNat * sz)) ?_ ?_ (sz := sz) ?_ (by rw [hlen]; omega)
            · rw [flat_drop _ _ (fun y hy => hs y (List.mem_of_mem_take hy)), flat_take _ _ hs]
              exact (hr.take _).drop _
            · intro k v hkv
              rw [List.getElem?_drop, List.getElem?_take] at hkv
              split at hkv
              · rw [show off + l.toNat * sz + k = off + (l.toNat * sz + k) by omega]
                exact hc _ v hkv
              · cases hkv
            · intro y hy
              exact hs y (List.mem_of_mem_take (List.mem_of_mem_drop hy))
    · exact hv.elim
  · rename_i b sz n hd hm
    rw [hd] at hx
    split at hv
    · rename_i l hh k hl0 hh0 hn
      obtain ⟨e, he, hne⟩ := Option.bind_eq_some_iff.1 hn
      split at hv
      · rename_i b dlo b' hlo'
        obtain ⟨⟨h0, h1, h2, rfl⟩, hk⟩ := hv
        obtain ⟨cap, c, e', fr, hev, hcap, hh', hcs, hcm⟩ := own_cap hx
        have hb := run_bounds (P := P) (w := w) (isSlice := true) (len := n) (cap := cap) (optIx_rep hl0 rlo1 rlo2) (optIx_rep hh0 rhi1 rhi2) h0 h1 (by omega)
        refine fin (by rw [hev, rmx2 hm]; exact run_cut he hne hb) ?_ hk
        have hlh : (hh - l).toNat = hh.toNat - l.toNat := by omega
        rw [hlh]
        by_cases hz : hh.toNat - l.toNat = 0
        · rw [hz]; exact .win0
        · rw [if_neg (by omega)]
          simp only [Option.map_some, add_block, Nat.zero_add]
          exact Rep.win hh' (by omega) (Nat.le_trans (Nat.mul_le_mul_right _ (by omega)) hcs) (by omega)
      obtain ⟨⟨h0, h1, h2⟩, hk⟩ := hv
      subst h0
      rename_i b lo0 b1 hne0
      cases b with
      | none =>
        obtain ⟨ad, hev, rfl⟩ := own0_inv hx
        have hb := run_bounds (P := P) (w := w) (isSlice := true) (len := 0) (cap := 0) (optIx_rep hl0 rlo1 rlo2) (optIx_rep hh0 rhi1 rhi2) (Int.le_refl _) h1 h2
        have hh0 : hh = 0 := by simp at h2; omega
        subst hh0
        exact fin (by rw [hev, rmx2 hm]; exact run_cut he hne hb) (by simpa using Rep.own0) hk
      | some b =>
        obtain ⟨cap, c, e', fr, hev, hcap, hh', hcs, hcm⟩ := own_cap hx
        have hb := run_bounds (P := P) (w := w) (isSlice := true) (len := n) (cap := cap) (optIx_rep hl0 rlo1 rlo2) (optIx_rep hh0 rhi1 rhi2) (Int.le_refl _) h1 (by omega)
        refine fin (by rw [hev, rmx2 hm]; exact run_cut he hne hb) ?_ hk
        have : (if cap = (0 : Int).toNat then some (⟨b, 0, none⟩ : Addr) else (some (⟨b, 0, none⟩ : Addr)).map (·.add ((0 : Int).toNat * k))) = some ⟨b, 0, none⟩ := by
          simp [Addr.add]
        rw [this]
        simpa using Rep.own hh' (n := hh.toNat) (cap := cap) (by omega) hcs hcm
    · exact hv.elim
  · rename_i b sz off n hd hm
    rw [hd] at hx
    split at hv
    · rename_i l hh k hl0 hh0 hn
      obtain ⟨⟨h0, h1, h2, rfl⟩, hk⟩ := hv
      obtain ⟨e, he, hne⟩ := Option.bind_eq_some_iff.1 hn
      have hlh : (hh - l).toNat = hh.toNat - l.toNat := by omega
      rcases win_inv hx with ⟨ad, cap, hev, rfl⟩ | ⟨cap, c, e', fr, hev, hcap, hh', hcs, hcm⟩
      · have hb := run_bounds (P := P) (w := w) (isSlice := true) (len := 0) (cap := cap) (optIx_rep hl0 rlo1 rlo2) (optIx_rep hh0 rhi1 rhi2) h0 h1 (by omega)
        refine fin (by rw [hev, rmx2 hm]; exact run_cut he hne hb) ?_ hk
        rw [hlh, show hh.toNat - l.toNat = 0 by omega]
        exact .win0
      · have hb := run_bounds (P := P) (w := w) (isSlice := true) (len := n) (cap := cap) (optIx_rep hl0 rlo1 rlo2) (optIx_rep hh0 rhi1 rhi2) h0 h1 (by omega)
        refine fin (by rw [hev, rmx2 hm]; exact run_cut he hne hb) ?_ hk
        rw [hlh]
        by_cases hz : hh.toNat - l.toNat = 0
        · rw [hz]; exact .win0
        · rw [if_neg (by omega)]
          simp only [Option.map_some, add_block]
          rw [← Nat.add_mul]
          exact Rep.win hh' (by omega) (Nat.le_trans (Nat.mul_le_mul_right _ (by omega)) hcs) (by omega)
    · exact hv.elim
  · rename_i hd hm
    rw [hd] at hx
    split at hv
    · rename_i l hh k hl0 hh0 hn
      obtain ⟨⟨rfl, rfl⟩, hk⟩ := hv
      obtain ⟨e, he, hne⟩ := Option.bind_eq_some_iff.1 hn
      have hb := run_bounds (P := P) (w := w) (isSlice := true) (len := 0) (cap := 0) (optIx_rep hl0 rlo1 rlo2) (optIx_rep hh0 rhi1 rhi2) (Int.le_refl _) (Int.le_refl _) (Int.le_refl _)
      exact fin (by rw [hx.v_inv, rmx2 hm]; exact run_cut he hne hb) (by simpa using (Rep.v rfl : Rep w S (.v (.slice none 0 0)) _)) hk
    · exact hv.elim
  · rename_i xs m hd hm
    rw [hd] at hx
    obtain ⟨ad, cap, hev, _⟩ := slc_inv hx
    exact cut0 hev hm hv
  · rename_i b sz n m hd hm
    rw [hd] at hx
    cases b with
    | none => obtain ⟨ad, hev, _⟩ := own0_inv hx; exact cut0 hev hm hv
    | some b => obtain ⟨cap, c, e', fr, hev, _⟩ := own_inv hx; exact cut0 hev hm hv
  · rename_i m hd hm
    rw [hd] at hx
    exact cut0 hx.v_inv hm hv
  · exact hv.elim
end steps
end Go.Ab
namespace Go.Ab
open Go
section
variable {P : Program} {w : World} {S : Nat → Prop}
theorem foldl_lay (c : Array Value) (off : Nat) : ∀ (xs : List Value) (j : Nat), off + j + xs.length ≤ c.size →
    ((xs.zipIdx j).foldl (fun cs (p : Value × Nat) => cs.setIfInBounds (off + p.2) p.1) c).toList = c.toList.take (off + j) ++ xs ++ c.toList.drop (off + j + xs.length)
  | [], j, h => by simp
  | x :: xs, j, h => by
    simp only [List.zipIdx_cons, List.foldl_cons]
    rw [foldl_lay (c.setIfInBounds (off + j) x) off xs (j + 1) (by simp at h ⊢; omega)]
    have hlt : off + j < c.size := by simp at h; omega
    simp only [Array.toList_setIfInBounds, List.length_cons]
    rw [show off + (j + 1) = off + j + 1 by omega, List.take_add_one, List.take_set_of_le (by omega), List.drop_set_of_lt (by omega)]
    rw [List.getElem?_set_self (by simpa using hlt)]
    rw [show off + j + 1 + xs.length = off + j + (xs.length + 1) by omega]
    simp
theorem lay_cells (c : Array Value) (off : Nat) (v : Value) (h : off + v.cells.size ≤ c.size) :
    (v.cells.zipIdx.foldl (fun cs (p : Value × Nat) => cs.setIfInBounds (off + p.2) p.1) c).toList = c.toList.take off ++ v.cells.toList ++ c.toList.drop (off + v.cells.size) := by
  rw [← Array.foldl_toList, Array.toList_zipIdx]
  have := foldl_lay c off v.cells.toList 0 (by simpa using h)
  simpa using this
theorem RepL.lay {cs xs : List D} {vals vs : List Value} (h : RepL w S cs vals) (hx : RepL w S xs vs) (o n : Nat) : RepL w S (cs.take o ++ xs ++ cs.drop n) (vals.take o ++ vs ++ vals.drop n) :=
  ((h.take o).append hx).append (h.drop n)
theorem mapM_get {α β : Type} {f : α → Option β} : ∀ {xs : List α} {ys : List β}, xs.mapM f = some ys → ∀ (i : Nat) (x : α), xs[i]? = some x → ∃ y, f x = some y ∧ ys[i]? = some y
  | [], ys, h, i, x, hx => by simp at hx
  | z :: xs, ys, h, i, x, hx => by
    simp only [List.mapM_cons, Option.bind_eq_bind, Option.pure_def, Option.bind_eq_some_iff] at h
    obtain ⟨y, hy, zs, hzs, h⟩ := h
    cases h
    cases i with
    | zero => simp at hx; subst hx; exact ⟨y, hy, rfl⟩
    | succ i => simpa using mapM_get hzs i x (by simpa using hx)
end
section steps
variable {P : Program} {N : Slots} {C : Ctx P N} {env : Env} {σ : Store} {a : Act} {w : World} {S : Nat → Prop} {o : Oper}
variable {Qp : D → Store → Prop} {next : Env → Store → Prop} {nx : Act → World → Prop} {Q : Exit → Act → World → Prop}
theorem parts_rep (h : Sim C env σ w S a.tmps) : ∀ (ps : List (Nat × Operand)), RepL w S ((ps.map fun p => (p.1, ev env p.2)).map (·.2)) ((ps.map fun p => (p.1, a.eval p.2)).map (·.2))
  | [] => .nil
  | p :: ps => .cons (ev_rep h p.2) (parts_rep h ps)
theorem fill_ok {T : TypeId} {fs : Array Field} {place : Nat → Option (Nat × Nat)} (hT : P.underlying T = some (.struct fs)) (hpl : ∀ (i : Nat) (F : Field), fs[i]? = some F → ∃ n, rsize P F.type = some n ∧ place i = some (F.offset, n)) :
    ∀ (ps : List (Nat × D)) (vs : List (Nat × Value)) (cs out : List D) (c : Array Value), aFill P T ps cs = some out → ps.map (·.1) = vs.map (·.1) → RepL w S (ps.map (·.2)) (vs.map (·.2)) → RepL w S cs c.toList →
      ∃ c', Instr.fill place c vs = some c' ∧ RepL w S out c'.toList
  | [], vs, cs, out, c, h, hk, hr, hc => by
    have : vs = [] := by cases vs with | nil => rfl | cons v vs => simp at hk
    subst this
    simp only [aFill, Option.some.injEq] at h; subst h
    exact ⟨c, rfl, hc⟩
  | (i, x) :: ps, vs, cs, out, c, h, hk, hr, hc => by
    cases vs with
    | nil => simp at hk
    | cons v vs =>
      obtain ⟨j, v⟩ := v
      simp only [List.map_cons, List.cons.injEq] at hk
      obtain ⟨rfl, hk⟩ := hk
      simp only [List.map_cons] at hr
      obtain ⟨v', vs', e, hrx, hrs⟩ := hr.cons_inv
      cases e
      simp only [aFill] at h
      split at h
      · rename_i F hF
        obtain ⟨fs', hfs', hF'⟩ := rfield_eq hF
        rw [hT] at hfs'; cases hfs'
        split at h
        · rename_i hcond
          obtain ⟨h1, h2, h3⟩ := hcond
          obtain ⟨n, hn, hp⟩ := hpl _ F hF'
          rw [h1] at hn; cases hn
          have hcl := rep_cells hrx h3
          have hsz : v.cells.size = x.cells.length := by have := hcl.length; simpa using this
          have hcsz : c.size = cs.length := by have := hc.length; simpa using this
          obtain ⟨c', hf, hr'⟩ := fill_ok hT hpl ps vs _ out (v.cells.zipIdx.foldl (fun cs (p : Value × Nat) => cs.setIfInBounds (F.offset + p.2) p.1) c) h hk hrs (by
            rw [lay_cells c F.offset v (by omega), hsz]
            exact hc.lay hcl F.offset (F.offset + x.cells.length))
          refine ⟨c', ?_, hr'⟩
          simp only [Instr.fill, hp]
          rw [if_neg (by simp; omega)]
          exact hf
        · cases h
      · cases h
theorem s_build (h : Sim C env σ w S a.tmps) (hd0 : a.defers = C.ds) (hN : dstOk N o.dst) (hnx : ∀ a w, NX C next a w → nx a w) {T : TypeId} {ps : Array (Nat × Operand)} (ho : o.op = .build T ps)
    (hv : vcRes P Qp next o.dst env σ (aBuild P T (ps.toList.map fun p => (p.1, ev env p.2)))) : o.wp P a w nx Q := by
  unfold aBuild at hv
  split at hv
  · rename_i z hz
    split at hv
    · rename_i hc
      obtain ⟨hst, hok⟩ := hc
      split at hv
      · rename_i cs hcs
        split at hv
        · rename_i out hout
          have hzr : Rep w S (.agg cs) z := by rw [← hcs]; exact rep_ofV hok
          obtain ⟨vals, rfl, hr⟩ := agg_inv hzr
          unfold placesOk at hst
          split at hst
          · rename_i fs hT
            obtain ⟨pl, hpl⟩ := Option.isSome_iff_exists.1 hst
            have hget : ∀ (i : Nat) (F : Field), fs[i]? = some F → ∃ n, rsize P F.type = some n ∧ pl.toArray[i]? = some (F.offset, n) := by
              intro i F hF
              obtain ⟨y, hy, hys⟩ := mapM_get hpl i F (by simpa using hF)
              simp only [Option.map_eq_some_iff] at hy
              obtain ⟨inf, hinf, rfl⟩ := hy
              exact ⟨inf.size, by simp [rsize, hinf], by simpa using hys⟩
            obtain ⟨c', hf, hr'⟩ := fill_ok (place := fun i => pl.toArray[i]?) hT hget _ ((ps.toList.map fun p => (p.1, a.eval p.2))) cs out vals.toArray hout (by simp) (parts_rep h ps.toList) (by simpa using hr)
            have hb : P.built T (ps.map fun p => (p.1, a.eval p.2)).toList = some c' := by
              unfold rzero at hz
              unfold Program.built
              cases hit : P.info? T with
              | none => rw [hit] at hz; simp at hz
              | some it =>
                rw [hit] at hz
                simp only [Option.bind_some] at hz
                simp only [hT, hz, hpl]
                simpa [Value.cells] using hf
            refine step_val h hd0 hN hnx (v := .agg c') ?_ (by simpa using Rep.agg hr') hv.2
            have := run_build w T _ c' hb
            simp only [execOp, ho]
            rw [Sem.run_bind, this]; rfl
          · cases hst
        · exact hv.elim
      · exact hv.elim
    · exact hv.elim
  · exact hv.elim
end steps
end Go.Ab
namespace Go.Ab
open Go
section
variable {P : Program} {w : World} {S : Nat → Prop}
theorem made_zeros {d : D} {vc : Array Value} {n len : Nat} (hr : RepL w S d.cells vc.toList) (hn : d.cells.length = n) : RepL w S (flat (List.replicate len d)) ((Array.range (len * n)).map (vc[· % vc.size]!)).toList := by
  have hs : ∀ x ∈ List.replicate len d, x.cells.length = n := fun x hx => by rw [(List.mem_replicate.1 hx).2]; exact hn
  have hfl : (flat (List.replicate len d)).length = len * n := by rw [flat_length _ n hs]; simp
  have hvs : vc.size = n := by have := hr.length; simp [hn] at this; exact this
  refine RepL.of_get (by simp [hfl]) fun k x hx => ?_
  have hk : k < len * n := by have := (List.getElem?_eq_some_iff.1 hx).1; omega
  have hnp : 0 < n := by
    rcases Nat.eq_zero_or_pos n with h | h
    · subst h; simp at hk
    · exact h
  have hi : k / n < len := (Nat.div_lt_iff_lt_mul hnp).2 hk
  have hj : k % n < n := Nat.mod_lt _ hnp
  have hk' : k = k / n * n + k % n := by rw [Nat.mul_comm]; exact (Nat.div_add_mod k n).symm
  rw [hk', flat_getD _ n hs (k / n) (by simpa using hi) (k % n) hj] at hx
  have : (List.replicate len d).getD (k / n) .any = d := by rw [getD_lt _ _ _ (by simpa using hi)]; simp
  rw [this] at hx
  obtain ⟨v, hv, hrep⟩ := hr.get _ x hx
  refine ⟨v, ?_, hrep⟩
  have hlt : k % n < vc.size := by omega
  simp only [Array.toList_map, List.getElem?_map, Array.toList_range, hvs]
  rw [List.getElem?_range hk]
  simp only [Option.map_some, Option.some.injEq]
  rw [getElem!_pos vc (k % n) hlt]
  have : vc.toList[k % n]? = some vc[k % n] := by simp [hlt]
  rw [this] at hv
  exact Option.some.inj hv
theorem fillSlice_ok {n len : Nat} : ∀ (ps : List (Nat × D)) (vs : List (Nat × Value)) (xs out : List D) (c : Array Value), aFillSlice n ps xs = some out → ps.map (·.1) = vs.map (·.1) → RepL w S (ps.map (·.2)) (vs.map (·.2)) →
    (∀ x ∈ xs, x.cells.length = n) → xs.length = len → RepL w S (flat xs) c.toList →
      ∃ c', Instr.fill (fun i => some (i * n, n)) c vs = some c' ∧ RepL w S (flat out) c'.toList ∧ (∀ x ∈ out, x.cells.length = n) ∧ out.length = len
  | [], vs, xs, out, c, h, hk, hr, hs, hl, hc => by
    have : vs = [] := by cases vs with | nil => rfl | cons v vs => simp at hk
    subst this
    simp only [aFillSlice, Option.some.injEq] at h; subst h
    exact ⟨c, rfl, hc, hs, hl⟩
  | (i, x) :: ps, vs, xs, out, c, h, hk, hr, hs, hl, hc => by
    cases vs with
    | nil => simp at hk
    | cons v vs =>
      obtain ⟨j, v⟩ := v
      simp only [List.map_cons, List.cons.injEq] at hk
      obtain ⟨rfl, hk⟩ := hk
      simp only [List.map_cons] at hr
      obtain ⟨v', vs', e, hrx, hrs⟩ := hr.cons_inv
      cases e
      simp only [aFillSlice] at h
      split at h
      · rename_i hcond
        obtain ⟨h1, h2, h3⟩ := hcond
        have hcl := rep_cells hrx h2
        have hsz : v.cells.size = n := by have := hcl.length; simpa [h1] using this
        have hfl := flat_length xs n hs
        have hcsz : c.size = xs.length * n := by have := hc.length; rw [hfl] at this; simpa using this
        have hin : i * n + n ≤ xs.length * n := by rw [← Nat.succ_mul]; exact Nat.mul_le_mul_right _ h3
        obtain ⟨c', hf, hr', hs', hl'⟩ := fillSlice_ok (n := n) (len := len) ps vs _ out (v.cells.zipIdx.foldl (fun cs (p : Value × Nat) => cs.setIfInBounds (i * n + p.2) p.1) c) h hk hrs
          (fun y hy => by rcases List.mem_or_eq_of_mem_set hy with hy | hy; exact hs y hy; rw [hy]; exact h1) (by simpa using hl) (by
            rw [lay_cells c (i * n) v (by omega), hsz, flat_set xs n hs i x h3 h1]
            exact hc.lay hcl _ _)
        refine ⟨c', ?_, hr', hs', hl'⟩
        simp only [Instr.fill]
        rw [if_neg (by simp; omega)]
        exact hf
      · cases h
end
section steps
variable {P : Program} {N : Slots} {C : Ctx P N} {env : Env} {σ : Store} {a : Act} {w : World} {S : Nat → Prop} {o : Oper}
variable {Qp : D → Store → Prop} {next : Env → Store → Prop} {nx : Act → World → Prop} {Q : Exit → Act → World → Prop}
theorem s_buildSlice (h : Sim C env σ w S a.tmps) (hd0 : a.defers = C.ds) (hN : dstOk N o.dst) (hnx : ∀ a w, NX C next a w → nx a w) {T : TypeId} {len : Nat} {ps : Array (Nat × Operand)} (ho : o.op = .buildSlice T len ps)
    (hv : vcRes P Qp next o.dst env σ (aBuildSlice P T len (ps.toList.map fun p => (p.1, ev env p.2)))) : o.wp P a w nx Q := by
  unfold aBuildSlice at hv
  split at hv
  · rename_i e he
    split at hv
    · rename_i n z hn hz
      split at hv
      · rename_i xs hxs
        obtain ⟨⟨h1, h2, h3, h4, h5⟩, hk⟩ := hv
        have hzr : Rep w S (ofV z) z := rep_ofV h1
        have hzc := rep_cells hzr h3
        have hzs : z.cells.size = n := by have := hzc.length; simpa [h2] using this
        obtain ⟨c', hf, hr', hs', hl'⟩ := fillSlice_ok (n := n) (len := len) _ (ps.toList.map fun p => (p.1, a.eval p.2)) _ xs ((Array.range (len * n)).map (z.cells[· % z.cells.size]!)) hxs (by simp) (parts_rep h ps.toList)
          (fun x hx => by rw [(List.mem_replicate.1 hx).2]; exact h2) (by simp) (made_zeros hzc h2)
        have hfl := flat_length xs n hs'
        have hcsz : c'.size = len * n := by have := hr'.length; rw [hfl, hl'] at this; simpa using this
        refine step_new h hd0 hN hnx (ob := .cells c' e) (x := .arr n xs) (d := .own (some w.heap.size) n len) (v := .slice (some ⟨w.heap.size, 0, none⟩) len len) ?_ (repObj_arr h.fr.lt hr' (fun k x hx => by simpa using hx) hs') (Rep.own (heap_alloc w _) (Nat.le_refl _) (by omega) (by omega)) (hk _ (not_sdom_size h.store))
        have hnb : ¬ (16777216 < len * n) := by omega
        have hf' : Instr.fill (fun i => some (i * n, n)) (Array.map (fun x => z.cells[x % z.cells.size]!) (Array.range (len * n))) (List.map (fun p => (p.1, a.eval p.2)) ps.toList) = some c' := hf
        by_cases h0 : len * n = 0
        · have hz0 : Array.map (fun x => z.cells[x % z.cells.size]!) (Array.range 0) = (#[] : Array Value) := by simp
          rw [h0, hz0] at hf'
          simp [execOp, ho, Instr.buildSlice, run_underlying (relem_eq he), run_sizeOf hn, h0, hf', newRow, Array.range_zero']
        · simp [execOp, ho, Instr.buildSlice, run_underlying (relem_eq he), run_sizeOf hn, run_zeroValue hz, h0, hnb, hf', newRow]
      · exact hv.elim
    · exact hv.elim
  · exact hv.elim
theorem s_makeSlice (h : Sim C env σ w S a.tmps) (hd0 : a.defers = C.ds) (hN : dstOk N o.dst) (hnx : ∀ a w, NX C next a w → nx a w) {T : TypeId} {x y : Operand} (ho : o.op = .makeSlice T x y)
    (hv : vcRes P Qp next o.dst env σ (aMakeSlice P T (ev env x) (ev env y))) : o.wp P a w nx Q := by
  unfold aMakeSlice at hv
  split at hv
  · rename_i e l c he hl hc
    split at hv
    · rename_i n z bt hn hz hb
      obtain ⟨⟨h1, h2, h3, h4, h5, h6, h7⟩, hk⟩ := hv
      obtain ⟨kl, hxl⟩ := ixOf_rep hl (ev_rep h x)
      obtain ⟨kc, hyc⟩ := ixOf_rep hc (ev_rep h y)
      have hzr : Rep w S (ofV z) z := rep_ofV h1
      have hzc := rep_cells hzr h3
      have hinf : ∃ i, P.info? e = some i ∧ i.size = n ∧ i.bytes = bt ∧ i.zero = some z := by
        unfold rsize at hn; unfold rzero at hz; unfold rbytes at hb
        cases hi : P.info? e with
        | none => rw [hi] at hn; simp at hn
        | some i => rw [hi] at hn hz hb; simp at hn hz hb; exact ⟨i, rfl, hn, hb, hz⟩
      obtain ⟨i, hi, rfl, rfl, hiz⟩ := hinf
      have hrun := run_make (P := P) w T e i z (relem_eq he) hi hiz kl kc l c h4 h5 (by omega) (by omega)
      have hmz : RepL w S (flat (List.replicate c.toNat (ofV z))) (madeCells z.cells (c.toNat * i.size)).toList := made_zeros hzc h2
      have hs' : ∀ (k : Nat), ∀ x ∈ List.replicate k (ofV z), x.cells.length = i.size := fun k x hx => by rw [(List.mem_replicate.1 hx).2]; exact h2
      refine step_new h hd0 hN hnx (ob := .cells (madeCells z.cells (c.toNat * i.size)) e) (v := .slice (some ⟨w.heap.size, 0, none⟩) l.toNat c.toNat) ?_
        (repObj_arr h.fr.lt (vals := (madeCells z.cells (c.toNat * i.size)).toList.take (l.toNat * i.size)) ?_ (fun k x hx => ?_) (hs' l.toNat)) (Rep.own (heap_alloc w _) (by omega) ?_ (by omega)) (hk _ (not_sdom_size h.store))
      · simp only [execOp, ho, hxl, hyc]; rw [Sem.run_bind, hrun]; rfl
      · have e1 : List.replicate l.toNat (ofV z) = (List.replicate c.toNat (ofV z)).take l.toNat := by rw [List.take_replicate, Nat.min_eq_left (by omega)]
        rw [e1, flat_take _ _ (hs' c.toNat)]
        exact hmz.take _
      · rw [List.getElem?_take] at hx
        split at hx
        · simpa using hx
        · cases hx
      · rw [size_madeCells]; exact Nat.le_refl _
    · exact hv.elim
  · exact hv.elim
theorem s_makeMap (h : Sim C env σ w S a.tmps) (hd0 : a.defers = C.ds) (hN : dstOk N o.dst) (hnx : ∀ a w, NX C next a w → nx a w) {T : TypeId} (ho : o.op = .makeMap T none)
    (hv : vcRes P Qp next o.dst env σ (.new ((rmap P T).isSome = true) (.mp []) (fun b => .map b))) : o.wp P a w nx Q := by
  refine step_new h hd0 hN hnx (ob := .map #[] 0) (x := .mp []) (v := .map (some w.heap.size)) ?_ ⟨#[], 0, heap_alloc w _, .nil, rfl, by simp, by simp⟩ .map (hv.2 _ (not_sdom_size h.store))
  simp [execOp, ho, Instr.makeMap]
theorem s_makeChan (h : Sim C env σ w S a.tmps) (hd0 : a.defers = C.ds) (hN : dstOk N o.dst) (hnx : ∀ a w, NX C next a w → nx a w) {T : TypeId} {x : Operand} (ho : o.op = .makeChan T x)
    (hv : vcRes P Qp next o.dst env σ (aMakeChan P T (ev env x))) : o.wp P a w nx Q := by
  unfold aMakeChan at hv
  split at hv
  · rename_i dir e n ht hx
    split at hv
    · rename_i bt hb
      obtain ⟨⟨h0, h1, h2⟩, hk⟩ := hv
      have hr := ev_rep h x
      rw [hx] at hr
      have hxe : a.eval x = .int .i64 n := by
        generalize a.eval x = y at hr
        cases hr; rfl
      unfold rbytes at hb
      cases hi : P.info? e with
      | none => rw [hi] at hb; simp at hb
      | some i =>
        rw [hi] at hb
        simp at hb
        refine step_new h hd0 hN hnx (ob := .chan n.toNat #[] false 0 0 false) (x := .ch n.toNat []) (v := .chan (some w.heap.size)) ?_ ⟨0, 0, heap_alloc w _, by simp⟩ (.v rfl) (hk _ (not_sdom_size h.store))
        have hn1 : ¬ (n < 0 ∨ 9223372036854775807 < n ∨ 281474976710544 < (i.bytes : Int) * n) := by rw [hb]; omega
        simp [execOp, ho, hxe, Instr.makeChan, asInt, asIntOf, run_underlying ht, typeInfo, hi, hn1]
    · exact hv.elim
  · exact hv.elim
theorem s_len (h : Sim C env σ w S a.tmps) (hd0 : a.defers = C.ds) (hN : dstOk N o.dst) (hnx : ∀ a w, NX C next a w → nx a w) {T : TypeId} {ts : Array TypeId} {ty : TypeId} {x : D} {xv : Value} (hx : Rep w S x xv)
    (ho : (execOp a.eval o).run P w = ((Builtin.len_ ts ty #[xv]).run P w).andThen fun v w => .ok (.value v) w) (ht : ts[0]? = some T)
    (hv : vcRes P Qp next o.dst env σ (aLen P σ T x)) : o.wp P a w nx Q := by
  have fin : ∀ {n : Nat}, (Builtin.len_ ts ty #[xv]).run P w = .ok (goInt n) w → next (eputo o.dst (.v (.int .i64 n)) env) σ → o.wp P a w nx Q :=
    fun {n} hrun hk => step_val h hd0 hN hnx (v := goInt n) (by rw [ho, hrun]; rfl) (.v rfl) hk
  have helem : ∀ {T}, (relem P T).isSome = true → ∃ e, P.underlying T = some (.slice e) := fun {T} hh => by
    obtain ⟨e, he⟩ := Option.isSome_iff_exists.1 hh
    exact ⟨e, relem_eq he⟩
  have hmap : ∀ {T}, (rmap P T).isSome = true → ∃ k e, P.underlying T = some (.map k e) := fun {T} hh => by
    unfold rmap at hh
    split at hh
    · exact ⟨_, _, by assumption⟩
    · cases hh
  unfold aLen at hv
  split at hv
  · obtain ⟨e, he⟩ := helem hv.1
    obtain ⟨ad, cap, rfl, _⟩ := slc_inv hx
    exact fin (by simp [Builtin.len_, ht, run_underlying he]) hv.2
  · rename_i b sz n
    obtain ⟨e, he⟩ := helem hv.1
    cases b with
    | none => obtain ⟨ad, rfl, rfl⟩ := own0_inv hx; exact fin (by simp [Builtin.len_, ht, run_underlying he]) hv.2
    | some b => obtain ⟨cap, c, e', fr, rfl, _⟩ := own_inv hx; exact fin (by simp [Builtin.len_, ht, run_underlying he]) hv.2
  · rename_i b sz off n
    obtain ⟨e, he⟩ := helem hv.1
    rcases win_inv hx with ⟨ad, cap, rfl, rfl⟩ | ⟨cap, c, e', fr, rfl, _⟩
    · exact fin (by simp [Builtin.len_, ht, run_underlying he]) hv.2
    · exact fin (by simp [Builtin.len_, ht, run_underlying he]) hv.2
  · rw [hx.v_inv] at fin
    exact fin (by simp [Builtin.len_, ht, run_underlying (isStr_eq hv.1)]) hv.2
  · obtain ⟨e, he⟩ := helem hv.1
    rw [hx.v_inv] at fin
    exact fin (n := 0) (by simp [Builtin.len_, ht, run_underlying he]) hv.2
  · rename_i b
    split at hv
    · rename_i es hs
      obtain ⟨k, e, he⟩ := hmap hv.1
      obtain ⟨entries, clock, hh, hr, hk, _⟩ := (h.store b _ hs).2
      have hlen : entries.size = es.length := by have := hr.length; simpa using this
      have hget : (getObj b).run P w = .ok (.map entries clock) w := by simp [getObj, Sem.run, hh]
      cases hx
      exact fin (n := es.length) (by simp [Builtin.len_, ht, run_underlying he, hget, hlen]) hv.2
    · exact hv.elim
  · obtain ⟨k, e, he⟩ := hmap hv.1
    rw [hx.v_inv] at fin
    exact fin (n := 0) (by simp [Builtin.len_, ht, run_underlying he]) hv.2
  · exact hv.elim
theorem s_typeAssert (h : Sim C env σ w S a.tmps) (hd0 : a.defers = C.ds) (hN : dstOk N o.dst) (hnx : ∀ a w, NX C next a w → nx a w) {T T' : TypeId} {x : Operand} {ok : Bool} (ho : o.op = .typeAssert x T' T ok)
    (hv : vcRes P Qp next o.dst env σ (aTA P (ev env x) T ok)) : o.wp P a w nx Q := by
  have hx := ev_rep h x
  have fin : ∀ {d v}, (Instr.typeAssert (a.eval x) T' T ok).run P w = .ok v w → Rep w S d v → next (eputo o.dst d env) σ → o.wp P a w nx Q :=
    fun hrun hrep hk => step_val h hd0 hN hnx (v := _) (by simp only [execOp, ho]; rw [Sem.run_bind, hrun]; rfl) hrep hk
  unfold aTA at hv
  split at hv
  · exact hv.elim
  · rename_i d hne hT
    split at hv
    · rename_i t y z hd hz
      rw [hd] at hx
      generalize hxe : a.eval x = xv at hx fin
      cases hx with
      | ifc hy =>
        split at hv
        · rename_i hte
          subst hte
          refine fin (v := .tuple #[_, .bool true]) ?_ (.tup (.cons hy (.cons (.v rfl) .nil))) hv.2
          cases d <;> first | (simp [Instr.typeAssert, run_underlying hT]; done) | exact (hne _ rfl).elim
        · rename_i hte
          refine fin (v := .tuple #[z, .bool false]) ?_ (.tup (.cons (rep_ofV hv.1) (.cons (.v rfl) .nil))) hv.2
          cases d <;> first | (simp [Instr.typeAssert, run_underlying hT, hte, run_zeroValue hz]; done) | exact (hne _ rfl).elim
    · rename_i z hd hz
      rw [hd] at hx
      rw [hx.v_inv] at fin
      refine fin (v := .tuple #[z, .bool false]) ?_ (.tup (.cons (rep_ofV hv.1) (.cons (.v rfl) .nil))) hv.2
      cases d <;> first | (simp [Instr.typeAssert, run_underlying hT, run_zeroValue hz]; done) | exact (hne _ rfl).elim
    · rename_i t y hd
      rw [hd] at hx
      generalize hxe : a.eval x = xv at hx fin
      cases hx with
      | ifc hy =>
        split at hv
        · rename_i hte
          subst hte
          refine fin (v := _) ?_ hy hv.2
          cases d <;> first | (simp [Instr.typeAssert, run_underlying hT]; done) | exact (hne _ rfl).elim
        · exact hv.elim
    · exact hv.elim
  · exact hv.elim
end steps
end Go.Ab
