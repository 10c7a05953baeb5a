/- The abstract machine's values and their reading in a world: definitions and persistence. -/
import Derived.WalkKit
set_option linter.unusedSimpArgs false
set_option linter.unusedVariables false
set_option linter.constructorNameAsVariable false
namespace Go.Ab
open Go

/-- Values of the abstract machine. 'any': nothing is known; 'v': one cell, as it is; 'ptr b sz i o': a pointer into the mutable row b (elements of sz cells), element i, cell o; 'elt cs': a place that is only read, whose cells from there on read as cs; 'slc xs': a slice that is only read (nil or not); 'own b sz n': a slice over the mutable row b from its head on ('none': a slice without room); 'map b': a map. -/
inductive D : Type where
  | any
  | v (x : Value)
  | ptr (b sz i o : Nat)
  | elt (cs : List D)
  | slc (xs : List D)
  | own (b : Option Nat) (sz n : Nat)
  | agg (cs : List D)
  | tup (xs : List D)
  | map (b : Nat)
  | clo (fn : Fn) (first caps : List D)
  | ifc (t : TypeId) (x : D)
  deriving Inhabited

def D.cells : D → List D
  | .agg cs => cs
  | x => [x]

def flat (xs : List D) : List D := xs.flatMap D.cells

@[simp] theorem flat_nil : flat [] = [] := rfl
@[simp] theorem flat_cons (x : D) (xs : List D) : flat (x :: xs) = x.cells ++ flat xs := rfl
@[simp] theorem flat_append (xs ys : List D) : flat (xs ++ ys) = flat xs ++ flat ys := by simp [flat]

def CellsAt (w : World) (b off : Nat) (vals : List Value) : Prop := ∀ k x, vals[k]? = some x → w.cell? ⟨b, off + k, none⟩ = some x

mutual
inductive Rep (w : World) (S : Nat → Prop) : D → Value → Prop
  | any {x : Value} : Rep w S .any x
  | v {x : Value} (h : x.oneCell' = true) : Rep w S (.v x) x
  | ptr {b sz i o : Nat} : Rep w S (.ptr b sz i o) (.pointer (some ⟨b, i * sz + o, none⟩))
  | elt {cs : List D} {b off : Nat} {vals : List Value} (hb : S b) (hr : RepL w S cs vals) (hc : CellsAt w b off vals) : Rep w S (.elt cs) (.pointer (some ⟨b, off, none⟩))
  | slc0 {a : Option Addr} {cap : Nat} : Rep w S (.slc []) (.slice a 0 cap)
  | slc {xs : List D} {b off cap sz : Nat} {vals : List Value} (hb : S b) (hr : RepL w S (flat xs) vals) (hc : CellsAt w b off vals) (hs : ∀ x ∈ xs, x.cells.length = sz) (hcap : xs.length ≤ cap) :
      Rep w S (.slc xs) (.slice (some ⟨b, off, none⟩) xs.length cap)
  | own0 {a : Option Addr} {sz : Nat} : Rep w S (.own none sz 0) (.slice a 0 0)
  | own {b sz n cap : Nat} {c : Array Value} {e : TypeId} {fr : Nat × Nat} (hh : w.heap[b]? = some (.cells c e fr)) (hn : n ≤ cap) (hc : cap * sz ≤ c.size) (hm : cap ≤ 9223372036854775807) :
      Rep w S (.own (some b) sz n) (.slice (some ⟨b, 0, none⟩) n cap)
  | agg {cs : List D} {vals : List Value} (hr : RepL w S cs vals) : Rep w S (.agg cs) (.agg vals.toArray)
  | tup {xs : List D} {vals : List Value} (hr : RepL w S xs vals) : Rep w S (.tup xs) (.tuple vals.toArray)
  | map {b : Nat} : Rep w S (.map b) (.map (some b))
  | clo {fn : Fn} {f c : List D} {fv cv : List Value} (hf : RepL w S f fv) (hc : RepL w S c cv) : Rep w S (.clo fn f c) (.func fn fv.toArray cv.toArray)
  | ifc {t : TypeId} {x : D} {xv : Value} (h : Rep w S x xv) : Rep w S (.ifc t x) (.iface t xv)
inductive RepL (w : World) (S : Nat → Prop) : List D → List Value → Prop
  | nil : RepL w S [] []
  | cons {d : D} {x : Value} {ds : List D} {xs : List Value} (h : Rep w S d x) (t : RepL w S ds xs) : RepL w S (d :: ds) (x :: xs)
end

/-- Blocks of cells keep their size and their type. -/
def Shape (w w' : World) : Prop := ∀ (b : Nat) (c : Array Value) (e : TypeId) (fr : Nat × Nat), w.heap[b]? = some (.cells c e fr) → ∃ (c' : Array Value) (fr' : Nat × Nat), w'.heap[b]? = some (.cells c' e fr') ∧ c'.size = c.size

/-- The world goes on: what is stable stays as it is. -/
structure Ev (w : World) (S : Nat → Prop) (w' : World) (S' : Nat → Prop) : Prop where
  mono : ∀ b, S b → S' b
  same : ∀ b, S b → w'.heap[b]? = w.heap[b]?
  shape : Shape w w'

theorem Shape.refl (w : World) : Shape w w := fun _ c _ fr h => ⟨c, fr, h, rfl⟩
theorem Shape.trans {a b c : World} (h : Shape a b) (k : Shape b c) : Shape a c := by
  intro i x e fr hx
  obtain ⟨c1, fr1, h1, s1⟩ := h i x e fr hx
  obtain ⟨c2, fr2, h2, s2⟩ := k i c1 e fr1 h1
  exact ⟨c2, fr2, h2, s2.trans s1⟩

theorem Ev.refl (w : World) (S : Nat → Prop) : Ev w S w S := ⟨fun _ h => h, fun _ _ => rfl, Shape.refl w⟩
theorem Ev.trans {w1 w2 w3 : World} {S1 S2 S3 : Nat → Prop} (h : Ev w1 S1 w2 S2) (k : Ev w2 S2 w3 S3) : Ev w1 S1 w3 S3 :=
  ⟨fun b hb => k.mono b (h.mono b hb), fun b hb => (k.same b (h.mono b hb)).trans (h.same b hb), h.shape.trans k.shape⟩

theorem cell_of_block {w w' : World} {a : Addr} (h : w'.heap[a.block]? = w.heap[a.block]?) : w'.cell? a = w.cell? a := by simp [World.cell?, h]

theorem CellsAt.of_same {w w' : World} {b off : Nat} {vals : List Value} (h : CellsAt w b off vals) (hs : w'.heap[b]? = w.heap[b]?) : CellsAt w' b off vals :=
  fun k x hk => (cell_of_block (a := ⟨b, off + k, none⟩) hs).trans (h k x hk)

mutual
theorem Rep.ev {w w' : World} {S S' : Nat → Prop} (hE : Ev w S w' S') {d : D} {x : Value} : Rep w S d x → Rep w' S' d x
  | .any => .any
  | .v h => .v h
  | .ptr => .ptr
  | .elt hb hr hc => .elt (hE.mono _ hb) (RepL.ev hE hr) (hc.of_same (hE.same _ hb))
  | .slc0 => .slc0
  | .slc hb hr hc hs hcap => .slc (hE.mono _ hb) (RepL.ev hE hr) (hc.of_same (hE.same _ hb)) hs hcap
  | .own0 => .own0
  | .own hh hn hc hm => by
    obtain ⟨c', fr', h', hsz⟩ := hE.shape _ _ _ _ hh
    exact .own h' hn (by rw [hsz]; exact hc) hm
  | .agg hr => .agg (RepL.ev hE hr)
  | .tup hr => .tup (RepL.ev hE hr)
  | .map => .map
  | .clo hf hc => .clo (RepL.ev hE hf) (RepL.ev hE hc)
  | .ifc h => .ifc (Rep.ev hE h)
theorem RepL.ev {w w' : World} {S S' : Nat → Prop} (hE : Ev w S w' S') {ds : List D} {xs : List Value} : RepL w S ds xs → RepL w' S' ds xs
  | .nil => .nil
  | .cons h t => .cons (Rep.ev hE h) (RepL.ev hE t)
end

theorem RepL.length {w : World} {S : Nat → Prop} : ∀ {ds : List D} {xs : List Value}, RepL w S ds xs → xs.length = ds.length
  | _, _, .nil => rfl
  | _, _, .cons _ t => by simp [t.length]

theorem RepL.get {w : World} {S : Nat → Prop} : ∀ {ds : List D} {xs : List Value}, RepL w S ds xs → ∀ (i : Nat) (d : D), ds[i]? = some d → ∃ x, xs[i]? = some x ∧ Rep w S d x
  | _, _, .nil, i, d, h => by simp at h
  | _, _, .cons (x := x) h t, 0, d, hd => by simp at hd; subst hd; exact ⟨x, by simp, h⟩
  | _, _, .cons h t, i + 1, d, hd => by
    obtain ⟨y, hy, hr⟩ := t.get i d (by simpa using hd)
    exact ⟨y, by simpa using hy, hr⟩

theorem RepL.append {w : World} {S : Nat → Prop} : ∀ {ds es : List D} {xs ys : List Value}, RepL w S ds xs → RepL w S es ys → RepL w S (ds ++ es) (xs ++ ys)
  | _, _, _, _, .nil, k => k
  | _, _, _, _, .cons h t, k => .cons h (t.append k)

theorem RepL.split {w : World} {S : Nat → Prop} : ∀ {ds es : List D} {zs : List Value}, RepL w S (ds ++ es) zs → ∃ xs ys, zs = xs ++ ys ∧ RepL w S ds xs ∧ RepL w S es ys
  | [], _, zs, h => ⟨[], zs, rfl, .nil, h⟩
  | d :: ds, es, zs, h => by
    cases h with
    | cons h t =>
      obtain ⟨xs, ys, rfl, h1, h2⟩ := t.split
      exact ⟨_ :: xs, ys, rfl, .cons h h1, h2⟩

theorem RepL.take {w : World} {S : Nat → Prop} {ds : List D} {xs : List Value} (h : RepL w S ds xs) (n : Nat) : RepL w S (ds.take n) (xs.take n) := by
  induction n generalizing ds xs with
  | zero => simp; exact .nil
  | succ n ih => cases h with
    | nil => simp; exact .nil
    | cons h t => exact .cons h (ih t)

theorem RepL.drop {w : World} {S : Nat → Prop} {ds : List D} {xs : List Value} (h : RepL w S ds xs) (n : Nat) : RepL w S (ds.drop n) (xs.drop n) := by
  induction n generalizing ds xs with
  | zero => simpa using h
  | succ n ih => cases h with
    | nil => simp; exact .nil
    | cons h t => exact ih t

theorem RepL.set {w : World} {S : Nat → Prop} {ds : List D} {xs : List Value} (h : RepL w S ds xs) (i : Nat) {d : D} {x : Value} (hd : Rep w S d x) : RepL w S (ds.set i d) (xs.set i x) := by
  induction i generalizing ds xs with
  | zero => cases h with
    | nil => exact .nil
    | cons h t => exact .cons hd t
  | succ n ih => cases h with
    | nil => exact .nil
    | cons h t => exact .cons h (ih t)

theorem RepL.one {w : World} {S : Nat → Prop} {d : D} {x : Value} (h : Rep w S d x) : RepL w S [d] [x] := .cons h .nil

theorem RepL.cons_inv {w : World} {S : Nat → Prop} {d : D} {ds : List D} {vs : List Value} (h : RepL w S (d :: ds) vs) : ∃ x xs, vs = x :: xs ∧ Rep w S d x ∧ RepL w S ds xs := by
  cases h with
  | cons h t => exact ⟨_, _, rfl, h, t⟩

theorem RepL.nil_inv {w : World} {S : Nat → Prop} {vs : List Value} (h : RepL w S [] vs) : vs = [] := by cases h; rfl

/-- A value's cells are the abstract value's, one for one (not of 'any', of which nothing is known, and not of a tuple). -/
def D.known : D → Bool
  | .any | .tup _ => false
  | _ => true

theorem Rep.cells {w : World} {S : Nat → Prop} {d : D} {x : Value} (h : Rep w S d x) (hk : d.known = true) : RepL w S d.cells x.cells.toList := by
  cases h with
  | any => simp [D.known] at hk
  | tup => simp [D.known] at hk
  | v h => cases x <;> simp_all [Value.cells, D.cells, Value.oneCell'] <;> exact .one (.v rfl)
  | agg hr => simpa [Value.cells, D.cells] using hr
  | ptr => exact .one .ptr
  | elt hb hr hc => exact .one (.elt hb hr hc)
  | slc0 => exact .one .slc0
  | slc hb hr hc hs hcap => exact .one (.slc hb hr hc hs hcap)
  | own0 => exact .one .own0
  | own hh hn hc hm => exact .one (.own hh hn hc hm)
  | map => exact .one .map
  | clo hf hc => exact .one (.clo hf hc)
  | ifc h => exact .one (.ifc h)

/-- One cell of a row: an abstract value that is no aggregate. -/
def D.cell : D → Bool
  | .any | .tup _ | .agg _ => false
  | _ => true

theorem Rep.one_cell {w : World} {S : Nat → Prop} {d : D} {x : Value} (h : Rep w S d x) (hk : d.cell = true) : x.oneCell' = true := by
  cases h <;> simp_all [D.cell, Value.oneCell']

theorem RepL.one_cell {w : World} {S : Nat → Prop} : ∀ {ds : List D} {xs : List Value}, RepL w S ds xs → (∀ d ∈ ds, d.cell = true) → ∀ x ∈ xs, x.oneCell' = true
  | _, _, .nil, _, x, hx => by simp at hx
  | _, _, .cons h t, hc, x, hx => by
    rcases List.mem_cons.1 hx with rfl | hx
    · exact h.one_cell (hc _ (by simp))
    · exact t.one_cell (fun d hd => hc d (by simp [hd])) x hx

/-- An abstract value whose cells are all of one cell each. -/
def D.plain (d : D) : Bool := d.known && d.cells.all D.cell

end Go.Ab
