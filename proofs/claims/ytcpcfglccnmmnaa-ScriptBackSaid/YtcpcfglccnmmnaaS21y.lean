/- Layer 21: writer.act. -/
import Derived.Test.YtcpcfglccnmmnaaS21x
set_option linter.unusedSimpArgs false
set_option linter.unusedVariables false
set_option linter.constructorNameAsVariable false
namespace Go.Ab.S21
open Go Go.Proofs

/-- An act. -/
structure XAct where
  kind : Int
  num : Int
  name : ByteArray
  by_ : List UInt8
  names : List ByteArray
  tails : List Int

def sD (s : ByteArray) : D := .v (.string s)
def iD (n : Int) : D := .v (.int .i64 n)

def XAct.d (x : XAct) : D := .agg [.v (.int .i64 x.kind), .v (.int .i64 x.num), .v (.string x.name), .slc (x.by_.map bD), .slc (x.names.map sD), .slc (x.tails.map iD)]

/-- Has it no field but its kind's? -/
def XAct.form (x : XAct) : Bool :=
  match fieldsD x.kind with
  | ([f0, f1, f2, f3, f4], kn) => kn && (f0 || x.name.toList == ByteArray.toList { data := #[] }) && (f1 || ((x.by_.map bD).length : Int) == 0) && (f2 || x.num == 0) && (f3 || ((x.names.map sD).length : Int) == 0) && (f4 || ((x.tails.map iD).length : Int) == 0)
  | _ => false

def numOk (least n : Int) : Bool := decide (least ≤ n) && decide (n < 2147483648)
def leastD (k : Int) : Int := if k = 9 then -2147483648 else 0

theorem fields_cases (k : Int) : ∃ f0 f1 f2 f3 f4 kn, fieldsD k = ([f0, f1, f2, f3, f4], kn) ∧ ((f0, f1, f2, f3, f4, kn) = (true, true, false, false, false, true) ∨ (f0, f1, f2, f3, f4, kn) = (true, false, true, false, false, true) ∨ (f0, f1, f2, f3, f4, kn) = (true, false, false, false, false, true) ∨
    (f0, f1, f2, f3, f4, kn) = (false, false, false, true, false, true) ∨ (f0, f1, f2, f3, f4, kn) = (false, false, false, false, false, true) ∨ (f0, f1, f2, f3, f4, kn) = (false, false, true, false, false, true) ∨
    (f0, f1, f2, f3, f4, kn) = (false, false, true, false, true, true) ∨ (f0, f1, f2, f3, f4, kn) = (false, false, false, false, false, false)) := by
  unfold fieldsD
  repeat' split
  all_goals exact ⟨_, _, _, _, _, _, rfl, by simp⟩

structure Frm (w bx bf : Nat) (x : XAct) (f0 f1 f2 f3 f4 : Bool) (bs : List UInt8) (σ0 : Store) (env : Env) (σ : Store) : Prop where
  e0 : eget 0 env = .ptr w 1 0 0
  e3 : eget 3 env = .ptr bx 6 0 0
  e4 : eget 4 env = .ptr bf 5 0 0
  st : St w bs ([(bf, .arr 5 [.agg [.v (.bool f0), .v (.bool f1), .v (.bool f2), .v (.bool f3), .v (.bool f4)]]), (bx, .arr 6 [x.d])] ++ σ0) σ
  ne : bf ≠ bx

theorem Frm.bx {w bx bf : Nat} {x : XAct} {f0 f1 f2 f3 f4 : Bool} {bs : List UInt8} {σ0 : Store} {env : Env} {σ : Store} (h : Frm w bx bf x f0 f1 f2 f3 f4 bs σ0 env σ) : sget bx σ = some (.arr 6 [x.d]) :=
  h.st.keep (by rw [List.cons_append, sget_cons, if_neg h.ne.symm, List.cons_append, sget_self])
theorem Frm.bf {w bx bf : Nat} {x : XAct} {f0 f1 f2 f3 f4 : Bool} {bs : List UInt8} {σ0 : Store} {env : Env} {σ : Store} (h : Frm w bx bf x f0 f1 f2 f3 f4 bs σ0 env σ) : sget bf σ = some (.arr 5 [.agg [.v (.bool f0), .v (.bool f1), .v (.bool f2), .v (.bool f3), .v (.bool f4)]]) :=
  h.st.keep (by rw [List.cons_append, sget_self])

/-- A call of need. -/
theorem need_v {b : Bool} {k : IntKind} {e : Int} {Qp : D → Store → Prop} {next : Env → Store → Prop} {dst : Option Nat} {env : Env} {σ : Store} (h1 : b = true → next (eputo dst (.tup []) env) σ) (h2 : b = false → Qp (.ifc 73 (.agg [.v (.int k e)])) σ) :
    VCall Try.prog Qp next dst env σ 34 [.v (.bool b), .v (.int k e)] := by
  refine ⟨_, Try.call34, (need_calls _ _ _ _).mono ?_⟩
  rintro r σ' ⟨rfl, rfl⟩
  cases b with
  | true => exact h1 rfl
  | false => exact h2 rfl

def wrongP (n : Int) : D := .ifc 73 (.agg [.v (.int .i64 n)])

/-- Which error an act has; 0: none. -/
def XAct.wrong (x : XAct) : Int :=
  if x.form = false then 4
  else if (fieldsD x.kind).1.getD 2 false = true ∧ numOk (leastD x.kind) x.num = false then 1
  else if x.tails.all (numOk 0) = false then 1 else 0

/-- Nothing of an act is too long. -/
structure XAct.Fits (x : XAct) : Prop where
  name : x.name.size ≤ 65535
  by_ : x.by_.length ≤ 65535
  many : x.names.length < 2 ^ 20
  names : ∀ s ∈ x.names, s.size ≤ 65535
  tails : x.tails.length < 2 ^ 20

def opt (f : Bool) (l : List UInt8) : List UInt8 := if f = true then l else []
def n32 (n : Int) : List UInt8 := le (n % 4294967296).toNat 4

/-- An act's bytes. -/
def XAct.bytes (x : XAct) : List UInt8 :=
  match fieldsD x.kind with
  | ([f0, f1, f2, f3, f4], _) => [UInt8.ofNat (x.kind % 256).toNat] ++ opt f0 (tx x.name) ++ opt f1 (tx ⟨x.by_.toArray⟩) ++ opt f2 (n32 x.num) ++ opt f3 (n32 x.names.length ++ x.names.flatMap tx) ++ opt f4 (n32 x.tails.length ++ x.tails.flatMap n32)
  | _ => []

theorem n32_len (n : Int) : (n32 n).length = 4 := by simp [n32, le]
theorem tx_len (s : ByteArray) (h : s.size ≤ 65535) : (tx s).length ≤ 65537 := by simp [tx, le]; omega

theorem names_part {C : Ctx Try.prog ⟨138, []⟩} {w bx bf : Nat} {x : XAct} {f0 f1 f2 f3 f4 : Bool} {bs : List UInt8} {env : Env} {σ : Store} (hI : Frm w bx bf x f0 f1 f2 f3 f4 bs [] env σ) (hm : x.names.length < 2 ^ 20) (hn : ∀ s ∈ x.names, s.size ≤ 65535) (hl : bs.length < 2 ^ 37)
    (k' : List Item) (hk' : ∀ env σ, Frm w bx bf x f0 f1 f2 f3 f4 (bs ++ opt f3 (n32 x.names.length ++ x.names.flatMap tx)) [] env σ → Goes C k' env σ) : Goes C (.code (bodyAt Try.f18 [1, 1, 1, 1, 1, 1, 1, 0]) :: k') env σ := by
  have h1 := hI.bx
  have h2 := hI.bf
  unfold XAct.d at h1
  obtain ⟨e0, e3, e4, hst, hne⟩ := hI
  refine Goes.seq ?_
  refine Goes.region [0, 3, 4] fun K hK => ?_; simp (maxSteps := 4000000) only [go_sem, ↓reduceIte, reduceCtorEq, Nat.reduceEqDiff, Nat.reduceBEq, Int.reduceBEq, Int.reduceBNe, Nat.reduceLT, Nat.reduceLeDiff, Nat.reduceAdd, Nat.reduceSub, Nat.reduceMul, Int.reduceToNat, Int.reduceEq, Int.reduceLT, Int.reduceLE, e0, e3, e4, h2]
  refine hK _ _ ?_; clear hK K
  refine Goes.cond rfl (fun hf => ?_) (fun hf => ?_)
  · skip
    have hnl : (x.names.map sD).length = x.names.length := List.length_map ..
    refine Goes.seq ?_
    refine Goes.region [0, 3, 4] fun K hK => ?_; simp (maxSteps := 4000000) only [go_sem, ↓reduceIte, reduceCtorEq, Nat.reduceEqDiff, Nat.reduceBEq, Int.reduceBEq, Int.reduceBNe, Nat.reduceLT, Nat.reduceLeDiff, Nat.reduceAdd, Nat.reduceSub, Nat.reduceMul, Int.reduceToNat, Int.reduceEq, Int.reduceLT, Int.reduceLE, h1]
    refine ⟨_, Try.call36, (hst.number ((x.names.map sD).length : Int) 0 (by omega)).mono ?_⟩
    intro e σ1 hR
    rw [if_pos (by rw [hnl]; omega), hnl] at hR
    obtain ⟨rfl, hst1⟩ := hR
    simp only [go_sem, ↓reduceIte, reduceCtorEq, Nat.reduceEqDiff, Nat.reduceBEq, Int.reduceBEq, Int.reduceBNe, Nat.reduceLT, Nat.reduceLeDiff, Nat.reduceAdd, Nat.reduceSub, Nat.reduceMul, Int.reduceToNat, Int.reduceEq, Int.reduceLT, Int.reduceLE]
    refine hK _ _ ?_; clear hK K
    have h1 : sget bx σ1 = some (.arr 6 [x.d]) := hst1.keep (by rw [List.cons_append, sget_cons, if_neg hne.symm, List.cons_append, sget_self])
    unfold XAct.d at h1
    refine Goes.seq ?_
    refine Goes.region [0, 3, 4] fun K hK => ?_; simp (maxSteps := 4000000) only [go_sem, ↓reduceIte, reduceCtorEq, Nat.reduceEqDiff, Nat.reduceBEq, Int.reduceBEq, Int.reduceBNe, Nat.reduceLT, Nat.reduceLeDiff, Nat.reduceAdd, Nat.reduceSub, Nat.reduceMul, Int.reduceToNat, Int.reduceEq, Int.reduceLT, Int.reduceLE, h1]
    refine hK _ _ ?_; clear hK K
    refine Goes.rebase [0, 3, 4, 110, 111, 112] ?_
    simp only [go_sem, ↓reduceIte, reduceCtorEq, Nat.reduceEqDiff, Nat.reduceBEq, Int.reduceBEq, Int.reduceBNe, Nat.reduceLT, Nat.reduceLeDiff, Nat.reduceAdd, Nat.reduceSub, Nat.reduceMul, Int.reduceToNat, Int.reduceEq, Int.reduceLT, Int.reduceLE]
    refine Goes.block ?_
    refine Goes.while (fun (i : Nat) env' σ' => i ≤ x.names.length ∧ env' = [(0, .ptr w 1 0 0), (3, .ptr bx 6 0 0), (4, .ptr bf 5 0 0), (110, .slc (x.names.map sD)), (111, .v (.int .i64 ((x.names.map sD).length : Int))), (112, .v (.int .i64 (i : Int)))] ∧
      St w (bs ++ (n32 x.names.length ++ (x.names.take i).flatMap tx)) ([(bf, .arr 5 [.agg [.v (.bool f0), .v (.bool f1), .v (.bool f2), .v (.bool f3), .v (.bool f4)]]), (bx, .arr 6 [x.d])] ++ []) σ') (fun i => x.names.length - i) 0
      ⟨by omega, rfl, by simpa [n32, List.append_assoc] using hst1⟩ ?_
    clear hst1 h1 σ1
    rintro i env' σ' ⟨hi, rfl, hst1⟩ ih
    repeat' (first | refine Goes.seq ?_ | refine Goes.skip ?_ | refine Goes.inBlock ?_ | refine Goes.block ?_ | refine Goes.exit rfl ?_ | (refine Goes.region [0, 3, 4, 110, 111, 112] fun K hK => ?_; simp (maxSteps := 4000000) only [go_sem, ↓reduceIte, reduceCtorEq, Nat.reduceEqDiff, Nat.reduceBEq, Int.reduceBEq, Int.reduceBNe, Nat.reduceLT, Nat.reduceLeDiff, Nat.reduceAdd, Nat.reduceSub, Nat.reduceMul, Int.reduceToNat, Int.reduceEq, Int.reduceLT, Int.reduceLE]; refine hK _ _ ?_; clear hK K))
    refine Goes.cond rfl (fun h => ?_) (fun h => ?_)
    · have hlt : i < x.names.length := by simpa [hnl] using h
      have hg := getD_map_lt sD x.names i hlt
      have hgl : i < (x.names.map sD).length := by omega
      rw [sD] at hg
      refine Goes.skip ?_
      refine Goes.seq ?_
      refine Goes.block ?_
      refine Goes.seq ?_
      refine Goes.region [0, 3, 4, 110, 111, 112] fun K hK => ?_; simp (maxSteps := 4000000) only [go_sem, ↓reduceIte, reduceCtorEq, Nat.reduceEqDiff, Nat.reduceBEq, Int.reduceBEq, Int.reduceBNe, Nat.reduceLT, Nat.reduceLeDiff, Nat.reduceAdd, Nat.reduceSub, Nat.reduceMul, Int.reduceToNat, Int.reduceEq, Int.reduceLT, Int.reduceLE, hg]
      refine ⟨⟨by omega, by omega⟩, hK _ _ ?_⟩; clear hK K
      refine Goes.region [0, 3, 4, 8, 110, 111, 112] fun K hK => ?_; simp (maxSteps := 4000000) only [go_sem, ↓reduceIte, reduceCtorEq, Nat.reduceEqDiff, Nat.reduceBEq, Int.reduceBEq, Int.reduceBNe, Nat.reduceLT, Nat.reduceLeDiff, Nat.reduceAdd, Nat.reduceSub, Nat.reduceMul, Int.reduceToNat, Int.reduceEq, Int.reduceLT, Int.reduceLE]
      have hlf := flatMap_length_le tx 65537 (x.names.take i) fun s hs => tx_len s (hn s (List.mem_of_mem_take hs))
      have hlt2 : (x.names.take i).length ≤ 2 ^ 20 := by simp; omega
      refine ⟨_, Try.call35, (hst1.text x.names[i] (by
        have : (x.names.take i).length * 65537 ≤ 2 ^ 20 * 65537 := Nat.mul_le_mul_right _ hlt2
        simp only [List.length_append, n32_len]; omega) (hn _ (List.getElem_mem hlt))).mono ?_⟩
      rintro e σ2 ⟨rfl, hst2⟩
      simp only [go_sem, ↓reduceIte, reduceCtorEq, Nat.reduceEqDiff, Nat.reduceBEq, Int.reduceBEq, Int.reduceBNe, Nat.reduceLT, Nat.reduceLeDiff, Nat.reduceAdd, Nat.reduceSub, Nat.reduceMul, Int.reduceToNat, Int.reduceEq, Int.reduceLT, Int.reduceLE]
      refine hK _ _ ?_; clear hK K
      refine Goes.inBlock ?_
      repeat' (first | refine Goes.seq ?_ | refine Goes.skip ?_ | refine Goes.inBlock ?_ | refine Goes.block ?_ | refine Goes.exit rfl ?_ | (refine Goes.region [0, 3, 4, 110, 111, 112] fun K hK => ?_; simp (maxSteps := 4000000) only [go_sem, ↓reduceIte, reduceCtorEq, Nat.reduceEqDiff, Nat.reduceBEq, Int.reduceBEq, Int.reduceBNe, Nat.reduceLT, Nat.reduceLeDiff, Nat.reduceAdd, Nat.reduceSub, Nat.reduceMul, Int.reduceToNat, Int.reduceEq, Int.reduceLT, Int.reduceLE]; refine hK _ _ ?_; clear hK K))
      refine Goes.rebase [0, 3, 4, 110, 111, 112] ?_
      simp only [go_sem, ↓reduceIte, reduceCtorEq, Nat.reduceEqDiff, Nat.reduceBEq, Int.reduceBEq, Int.reduceBNe, Nat.reduceLT, Nat.reduceLeDiff, Nat.reduceAdd, Nat.reduceSub, Nat.reduceMul, Int.reduceToNat, Int.reduceEq, Int.reduceLT, Int.reduceLE]
      rw [wrap_succ i (by omega)]
      refine ih (i + 1) _ _ ⟨by omega, rfl, ?_⟩ (by omega)
      rw [take_succ_flatMap tx x.names i hlt, ← List.append_assoc (n32 _), ← List.append_assoc _ _ (tx _)]
      exact hst2
    · have hge : ¬ i < x.names.length := by simpa [hnl] using h
      have : i = x.names.length := by omega
      subst this
      repeat' (first | refine Goes.seq ?_ | refine Goes.skip ?_ | refine Goes.inBlock ?_ | refine Goes.block ?_ | refine Goes.exit rfl ?_ | (refine Goes.region [0, 3, 4] fun K hK => ?_; simp (maxSteps := 4000000) only [go_sem, ↓reduceIte, reduceCtorEq, Nat.reduceEqDiff, Nat.reduceBEq, Int.reduceBEq, Int.reduceBNe, Nat.reduceLT, Nat.reduceLeDiff, Nat.reduceAdd, Nat.reduceSub, Nat.reduceMul, Int.reduceToNat, Int.reduceEq, Int.reduceLT, Int.reduceLE]; refine hK _ _ ?_; clear hK K))
      refine hk' _ _ ⟨rfl, rfl, rfl, ?_, hne⟩
      rw [List.take_length] at hst1
      rw [show opt f3 (n32 x.names.length ++ x.names.flatMap tx) = n32 x.names.length ++ x.names.flatMap tx from if_pos hf]; exact hst1
  · refine Goes.skip (hk' _ _ ⟨rfl, rfl, rfl, ?_, hne⟩)
    rw [show opt f3 (n32 x.names.length ++ x.names.flatMap tx) = [] from if_neg (by rw [hf]; simp), List.append_nil]; exact hst

theorem tails_part {C : Ctx Try.prog ⟨138, []⟩} {w bx bf : Nat} {x : XAct} {f0 f1 f2 f3 f4 : Bool} {bs : List UInt8} {env : Env} {σ : Store} (hI : Frm w bx bf x f0 f1 f2 f3 f4 bs [] env σ) (hm : x.tails.length < 2 ^ 20) (hl : bs.length < 2 ^ 37 + 2 ^ 36 + 2 ^ 30) (hp : f4 = true ∧ x.tails.all (numOk 0) = false → ∀ σ, Pan C (wrongP 1) σ)
    (k' : List Item) (hk' : (f4 = true → x.tails.all (numOk 0) = true) → ∀ env σ, Frm w bx bf x f0 f1 f2 f3 f4 (bs ++ opt f4 (n32 x.tails.length ++ x.tails.flatMap n32)) [] env σ → Goes C k' env σ) : Goes C (.code (bodyAt Try.f18 [1, 1, 1, 1, 1, 1, 1, 1]) :: k') env σ := by
  have h1 := hI.bx
  have h2 := hI.bf
  unfold XAct.d at h1
  obtain ⟨e0, e3, e4, hst, hne⟩ := hI
  refine Goes.seq ?_
  refine Goes.region [0, 3, 4] fun K hK => ?_; simp (maxSteps := 4000000) only [go_sem, ↓reduceIte, reduceCtorEq, Nat.reduceEqDiff, Nat.reduceBEq, Int.reduceBEq, Int.reduceBNe, Nat.reduceLT, Nat.reduceLeDiff, Nat.reduceAdd, Nat.reduceSub, Nat.reduceMul, Int.reduceToNat, Int.reduceEq, Int.reduceLT, Int.reduceLE, e0, e3, e4, h2]
  refine hK _ _ ?_; clear hK K
  refine Goes.cond rfl (fun hf => ?_) (fun hf => ?_)
  · skip
    have hnl : (x.tails.map iD).length = x.tails.length := List.length_map ..
    refine Goes.seq ?_
    refine Goes.region [0, 3, 4] fun K hK => ?_; simp (maxSteps := 4000000) only [go_sem, ↓reduceIte, reduceCtorEq, Nat.reduceEqDiff, Nat.reduceBEq, Int.reduceBEq, Int.reduceBNe, Nat.reduceLT, Nat.reduceLeDiff, Nat.reduceAdd, Nat.reduceSub, Nat.reduceMul, Int.reduceToNat, Int.reduceEq, Int.reduceLT, Int.reduceLE, h1]
    refine ⟨_, Try.call36, (hst.number ((x.tails.map iD).length : Int) 0 (by omega)).mono ?_⟩
    intro e σ1 hR
    rw [if_pos (by rw [hnl]; omega), hnl] at hR
    obtain ⟨rfl, hst1⟩ := hR
    simp only [go_sem, ↓reduceIte, reduceCtorEq, Nat.reduceEqDiff, Nat.reduceBEq, Int.reduceBEq, Int.reduceBNe, Nat.reduceLT, Nat.reduceLeDiff, Nat.reduceAdd, Nat.reduceSub, Nat.reduceMul, Int.reduceToNat, Int.reduceEq, Int.reduceLT, Int.reduceLE]
    refine hK _ _ ?_; clear hK K
    have h1 : sget bx σ1 = some (.arr 6 [x.d]) := hst1.keep (by rw [List.cons_append, sget_cons, if_neg hne.symm, List.cons_append, sget_self])
    unfold XAct.d at h1
    refine Goes.seq ?_
    refine Goes.region [0, 3, 4] fun K hK => ?_; simp (maxSteps := 4000000) only [go_sem, ↓reduceIte, reduceCtorEq, Nat.reduceEqDiff, Nat.reduceBEq, Int.reduceBEq, Int.reduceBNe, Nat.reduceLT, Nat.reduceLeDiff, Nat.reduceAdd, Nat.reduceSub, Nat.reduceMul, Int.reduceToNat, Int.reduceEq, Int.reduceLT, Int.reduceLE, h1]
    refine hK _ _ ?_; clear hK K
    refine Goes.rebase [0, 3, 4, 128, 129, 130] ?_
    simp only [go_sem, ↓reduceIte, reduceCtorEq, Nat.reduceEqDiff, Nat.reduceBEq, Int.reduceBEq, Int.reduceBNe, Nat.reduceLT, Nat.reduceLeDiff, Nat.reduceAdd, Nat.reduceSub, Nat.reduceMul, Int.reduceToNat, Int.reduceEq, Int.reduceLT, Int.reduceLE]
    refine Goes.block ?_
    refine Goes.while (fun (i : Nat) env' σ' => i ≤ x.tails.length ∧ (x.tails.take i).all (numOk 0) = true ∧ env' = [(0, .ptr w 1 0 0), (3, .ptr bx 6 0 0), (4, .ptr bf 5 0 0), (128, .slc (x.tails.map iD)), (129, .v (.int .i64 ((x.tails.map iD).length : Int))), (130, .v (.int .i64 (i : Int)))] ∧
      St w (bs ++ (n32 x.tails.length ++ (x.tails.take i).flatMap n32)) ([(bf, .arr 5 [.agg [.v (.bool f0), .v (.bool f1), .v (.bool f2), .v (.bool f3), .v (.bool f4)]]), (bx, .arr 6 [x.d])] ++ []) σ') (fun i => x.tails.length - i) 0
      ⟨by omega, by simp, rfl, by simpa [n32, List.append_assoc] using hst1⟩ ?_
    clear hst1 h1 σ1
    rintro i env' σ' ⟨hi, hall, rfl, hst1⟩ ih
    repeat' (first | refine Goes.seq ?_ | refine Goes.skip ?_ | refine Goes.inBlock ?_ | refine Goes.block ?_ | refine Goes.exit rfl ?_ | (refine Goes.region [0, 3, 4, 128, 129, 130] fun K hK => ?_; simp (maxSteps := 4000000) only [go_sem, ↓reduceIte, reduceCtorEq, Nat.reduceEqDiff, Nat.reduceBEq, Int.reduceBEq, Int.reduceBNe, Nat.reduceLT, Nat.reduceLeDiff, Nat.reduceAdd, Nat.reduceSub, Nat.reduceMul, Int.reduceToNat, Int.reduceEq, Int.reduceLT, Int.reduceLE]; refine hK _ _ ?_; clear hK K))
    refine Goes.cond rfl (fun h => ?_) (fun h => ?_)
    · have hlt : i < x.tails.length := by simpa [hnl] using h
      have hg := getD_map_lt iD x.tails i hlt
      have hgl : i < (x.tails.map iD).length := by omega
      rw [iD] at hg
      refine Goes.skip ?_
      refine Goes.seq ?_
      refine Goes.block ?_
      refine Goes.seq ?_
      refine Goes.region [0, 3, 4, 128, 129, 130] fun K hK => ?_; simp (maxSteps := 4000000) only [go_sem, ↓reduceIte, reduceCtorEq, Nat.reduceEqDiff, Nat.reduceBEq, Int.reduceBEq, Int.reduceBNe, Nat.reduceLT, Nat.reduceLeDiff, Nat.reduceAdd, Nat.reduceSub, Nat.reduceMul, Int.reduceToNat, Int.reduceEq, Int.reduceLT, Int.reduceLE, hg]
      refine ⟨⟨by omega, by omega⟩, hK _ _ ?_⟩; clear hK K
      refine Goes.region [0, 3, 4, 10, 128, 129, 130] fun K hK => ?_; simp (maxSteps := 4000000) only [go_sem, ↓reduceIte, reduceCtorEq, Nat.reduceEqDiff, Nat.reduceBEq, Int.reduceBEq, Int.reduceBNe, Nat.reduceLT, Nat.reduceLeDiff, Nat.reduceAdd, Nat.reduceSub, Nat.reduceMul, Int.reduceToNat, Int.reduceEq, Int.reduceLT, Int.reduceLE]
      have hlf := flatMap_length_le n32 4 (x.tails.take i) fun s _ => by rw [n32_len]; exact Nat.le_refl _
      have hlt2 : (x.tails.take i).length ≤ 2 ^ 20 := by simp; omega
      refine ⟨_, Try.call36, (hst1.number x.tails[i] 0 (by
        have : (x.tails.take i).length * 4 ≤ 2 ^ 20 * 4 := Nat.mul_le_mul_right _ hlt2
        simp only [List.length_append, n32_len]; omega)).mono ?_⟩
      intro e σ2 hR
      by_cases hc : 0 ≤ x.tails[i] ∧ x.tails[i] < 2147483648
      rotate_left
      · rw [if_neg hc] at hR
        obtain ⟨rfl, rfl⟩ := hR
        simp only [go_sem, ↓reduceIte, reduceCtorEq, Nat.reduceEqDiff, Nat.reduceBEq, Int.reduceBEq, Int.reduceBNe, Nat.reduceLT, Nat.reduceLeDiff, Nat.reduceAdd, Nat.reduceSub, Nat.reduceMul, Int.reduceToNat, Int.reduceEq, Int.reduceLT, Int.reduceLE]
        refine hp ⟨hf, ?_⟩ _
        rw [List.all_eq_false]
        exact ⟨x.tails[i], List.getElem_mem hlt, by simp [numOk]; omega⟩
      rw [if_pos hc] at hR
      obtain ⟨rfl, hst2⟩ := hR
      simp only [go_sem, ↓reduceIte, reduceCtorEq, Nat.reduceEqDiff, Nat.reduceBEq, Int.reduceBEq, Int.reduceBNe, Nat.reduceLT, Nat.reduceLeDiff, Nat.reduceAdd, Nat.reduceSub, Nat.reduceMul, Int.reduceToNat, Int.reduceEq, Int.reduceLT, Int.reduceLE]
      refine hK _ _ ?_; clear hK K
      refine Goes.inBlock ?_
      repeat' (first | refine Goes.seq ?_ | refine Goes.skip ?_ | refine Goes.inBlock ?_ | refine Goes.block ?_ | refine Goes.exit rfl ?_ | (refine Goes.region [0, 3, 4, 128, 129, 130] fun K hK => ?_; simp (maxSteps := 4000000) only [go_sem, ↓reduceIte, reduceCtorEq, Nat.reduceEqDiff, Nat.reduceBEq, Int.reduceBEq, Int.reduceBNe, Nat.reduceLT, Nat.reduceLeDiff, Nat.reduceAdd, Nat.reduceSub, Nat.reduceMul, Int.reduceToNat, Int.reduceEq, Int.reduceLT, Int.reduceLE]; refine hK _ _ ?_; clear hK K))
      refine Goes.rebase [0, 3, 4, 128, 129, 130] ?_
      simp only [go_sem, ↓reduceIte, reduceCtorEq, Nat.reduceEqDiff, Nat.reduceBEq, Int.reduceBEq, Int.reduceBNe, Nat.reduceLT, Nat.reduceLeDiff, Nat.reduceAdd, Nat.reduceSub, Nat.reduceMul, Int.reduceToNat, Int.reduceEq, Int.reduceLT, Int.reduceLE]
      rw [wrap_succ i (by omega)]
      refine ih (i + 1) _ _ ⟨by omega, ?_, rfl, ?_⟩ (by omega)
      · rw [List.take_succ_eq_append_getElem hlt, List.all_append, hall]
        simp [numOk, hc]
      rw [take_succ_flatMap n32 x.tails i hlt, ← List.append_assoc (n32 _), ← List.append_assoc _ _ (n32 _)]
      exact hst2
    · have hge : ¬ i < x.tails.length := by simpa [hnl] using h
      have : i = x.tails.length := by omega
      subst this
      repeat' (first | refine Goes.seq ?_ | refine Goes.skip ?_ | refine Goes.inBlock ?_ | refine Goes.block ?_ | refine Goes.exit rfl ?_ | (refine Goes.region [0, 3, 4] fun K hK => ?_; simp (maxSteps := 4000000) only [go_sem, ↓reduceIte, reduceCtorEq, Nat.reduceEqDiff, Nat.reduceBEq, Int.reduceBEq, Int.reduceBNe, Nat.reduceLT, Nat.reduceLeDiff, Nat.reduceAdd, Nat.reduceSub, Nat.reduceMul, Int.reduceToNat, Int.reduceEq, Int.reduceLT, Int.reduceLE]; refine hK _ _ ?_; clear hK K))
      refine hk' (fun _ => by rw [← hall, List.take_length]) _ _ ⟨rfl, rfl, rfl, ?_, hne⟩
      rw [List.take_length] at hst1
      rw [show opt f4 (n32 x.tails.length ++ x.tails.flatMap n32) = n32 x.tails.length ++ x.tails.flatMap n32 from if_pos hf]; exact hst1
  · refine Goes.skip (hk' (fun h => by rw [hf] at h; cases h) _ _ ⟨rfl, rfl, rfl, ?_, hne⟩)
    rw [show opt f4 (n32 x.tails.length ++ x.tails.flatMap n32) = [] from if_neg (by rw [hf]; simp), List.append_nil]; exact hst
set_option maxRecDepth 100000 in
set_option maxHeartbeats 800000 in
theorem act_calls (w : Nat) (o : Option Nat) (bs : List UInt8) (x : XAct) (hok : wok w o bs) (hfit : x.Fits) (hl : bs.length < 2 ^ 36) :
    ACalls Try.prog 18 [.ptr w 1 0 0, x.d] (wst w o bs) (fun e σ' => if x.wrong = 0 then e = .ret (.tup []) ∧ ∃ o', wok w o' (bs ++ x.bytes) ∧ σ' = wst w o' (bs ++ x.bytes) else e = .panic (wrongP x.wrong) ∧ σ' = []) := by
  have hbox := wst_box hok
  refine ACalls.of_body Try.func18 rfl Try.ntmps18 (by simp) fun C hC => ?_
  refine Goes.seq ?_
  refine Goes.region [0, 1] fun K hK => ?_; simp (maxSteps := 4000000) only [go_sem, ↓reduceIte, reduceCtorEq, Nat.reduceEqDiff, Nat.reduceBEq, Int.reduceBEq, Int.reduceBNe, Nat.reduceLT, Nat.reduceLeDiff, Nat.reduceAdd, Nat.reduceSub, Nat.reduceMul, Int.reduceToNat, Int.reduceEq, Int.reduceLT, Int.reduceLE, hbox, XAct.d]
  intro bx hbx
  refine hK _ _ ?_; clear hK K
  refine Goes.seq ?_
  refine Goes.region [0, 3] fun K hK => ?_; simp (maxSteps := 4000000) only [go_sem, ↓reduceIte, reduceCtorEq, Nat.reduceEqDiff, Nat.reduceBEq, Int.reduceBEq, Int.reduceBNe, Nat.reduceLT, Nat.reduceLeDiff, Nat.reduceAdd, Nat.reduceSub, Nat.reduceMul, Int.reduceToNat, Int.reduceEq, Int.reduceLT, Int.reduceLE, hbox, hbx]
  refine ⟨_, Try.call33, (fields_calls x.kind _).mono ?_⟩
  rintro e σ1 ⟨rfl, rfl⟩
  obtain ⟨f0, f1, f2, f3, f4, kn, hF, hL⟩ := fields_cases x.kind
  rw [hF]
  simp only [go_sem, ↓reduceIte, reduceCtorEq, Nat.reduceEqDiff, Nat.reduceBEq, Int.reduceBEq, Int.reduceBNe, Nat.reduceLT, Nat.reduceLeDiff, Nat.reduceAdd, Nat.reduceSub, Nat.reduceMul, Int.reduceToNat, Int.reduceEq, Int.reduceLT, Int.reduceLE]
  intro bf hbf
  refine hK _ _ ?_; clear hK K
  have hfx : bf ≠ bx := fun e => by subst e; rw [sget_self] at hbf; cases hbf
  have hfs : sget bf (wst w o bs) = none := by rw [sget_cons, if_neg hfx] at hbf; exact hbf
  have hst : St w bs ([(bf, .arr 5 [.agg [.v (.bool f0), .v (.bool f1), .v (.bool f2), .v (.bool f3), .v (.bool f4)]]), (bx, .arr 6 [x.d])] ++ []) (wst w o bs ++ ([(bf, .arr 5 [.agg [.v (.bool f0), .v (.bool f1), .v (.bool f2), .v (.bool f3), .v (.bool f4)]]), (bx, .arr 6 [x.d])] ++ [])) :=
    ⟨o, hok, rfl, Apart.cons hfs (Apart.cons hbx (Apart.nil _))⟩
  generalize hσ : wst w o bs ++ ([(bf, .arr 5 [.agg [.v (.bool f0), .v (.bool f1), .v (.bool f2), .v (.bool f3), .v (.bool f4)]]), (bx, .arr 6 [x.d])] ++ []) = σ at hst
  refine Goes.le (σ' := σ) (ELe.refl _) ?_ ?_
  · rw [← hσ]
    refine SLe.append ?_ (SLe.cons (sget_self ..) (SLe.cons (by rw [sget_cons, if_neg hfx.symm, sget_self]; rfl) (SLe.nil _)))
    exact sle_cons (sle_cons (SLe.refl _) hbx) hfs
  have hform : x.form = (kn && (f0 || x.name.toList == ByteArray.toList { data := #[] }) && (f1 || ((x.by_.map bD).length : Int) == 0) && (f2 || x.num == 0) && (f3 || ((x.names.map sD).length : Int) == 0) && (f4 || ((x.tails.map iD).length : Int) == 0)) := by
    unfold XAct.form; rw [hF]
  have hbytes : x.bytes = [UInt8.ofNat (x.kind % 256).toNat] ++ opt f0 (tx x.name) ++ opt f1 (tx ⟨x.by_.toArray⟩) ++ opt f2 (n32 x.num) ++ opt f3 (n32 x.names.length ++ x.names.flatMap tx) ++ opt f4 (n32 x.tails.length ++ x.tails.flatMap n32) := by
    unfold XAct.bytes; rw [hF]
  have hpan : x.wrong ≠ 0 → Pan C (wrongP x.wrong) [] := fun h => Pan.of hC Try.func18 (by rw [if_neg h]; exact ⟨rfl, rfl⟩)
  have hnum : (fieldsD x.kind).1.getD 2 false = f2 := by rw [hF]; rfl
  clear hF hbf hfs hσ hbox hbx
  refine Goes.seq (Goes.join (fun env σ => Frm w bx bf x f0 f1 f2 f3 f4 bs [] env σ ∧ x.form = true) ?_ ?_)
  · intro k' hk'
    have hI : Frm w bx bf x f0 f1 f2 f3 f4 bs [] [(0, .ptr w 1 0 0), (3, .ptr bx 6 0 0), (4, .ptr bf 5 0 0), (5, .v (.bool kn))] σ := ⟨rfl, rfl, rfl, hst, hfx⟩
    have h1 := hI.bx
    have h2 := hI.bf
    unfold XAct.d at h1
    have h4 : x.form = false → Pan C (.ifc 73 (.agg [.v (.int .i64 4)])) σ := fun hf => by
      have hw : x.wrong = 4 := by unfold XAct.wrong; rw [if_pos hf]
      have := hpan (by rw [hw]; decide)
      rw [hw] at this
      exact this.le (SLe.nil _)
    have h5 : x.form = true → ∀ env', eget 0 env' = .ptr w 1 0 0 → eget 3 env' = .ptr bx 6 0 0 → eget 4 env' = .ptr bf 5 0 0 → Goes C k' env' σ := fun hf env' e0 e3 e4 => hk' env' σ ⟨⟨e0, e3, e4, hst, hfx⟩, hf⟩
    clear hk' hI hbytes hnum hpan hst
    rcases hL with h | h | h | h | h | h | h | h <;> simp only [Prod.mk.injEq] at h <;> obtain ⟨rfl, rfl, rfl, rfl, rfl, rfl⟩ := h
    all_goals
      refine Goes.region [0, 3, 4, 5] fun K hK => ?_; simp (maxSteps := 4000000) only [go_sem, ↓reduceIte, reduceCtorEq, Nat.reduceEqDiff, Nat.reduceBEq, Int.reduceBEq, Int.reduceBNe, Nat.reduceLT, Nat.reduceLeDiff, Nat.reduceAdd, Nat.reduceSub, Nat.reduceMul, Int.reduceToNat, Int.reduceEq, Int.reduceLT, Int.reduceLE, h1, h2]
      repeat' (refine ite_intro (fun hc => ?_) (fun hc => ?_))
      all_goals
        refine need_v (fun hb => ?_) (fun hb => ?_)
        · simp only [vcL_nil]
          refine hK _ _ (h5 ?_ _ rfl rfl rfl)
          rw [hform]; simp_all
        · refine h4 ?_
          rw [hform]; simp_all
  · intro env σ hI
    obtain ⟨hI, hfm⟩ := hI
    have hf4 : f4 = false → x.tails.all (numOk 0) = true := fun h => by
      rw [hform, h] at hfm
      have : x.tails.length = 0 := by simp at hfm; simpa using hfm.2
      rw [List.length_eq_zero_iff.1 this]; rfl
    clear hst hform hL
    refine Goes.seq (Goes.join (fun env σ => Frm w bx bf x f0 f1 f2 f3 f4 (bs ++ [UInt8.ofNat (x.kind % 256).toNat]) [] env σ) ?_ ?_)
    · intro k' hk'
      have h1 := hI.bx
      unfold XAct.d at h1
      obtain ⟨e0, e3, e4, hst, hne⟩ := hI
      obtain ⟨o, hok, rfl, hap⟩ := hst.ex
      generalize hρ : ([(bf, AObj.arr 5 [D.agg [D.v (Value.bool f0), D.v (Value.bool f1), D.v (Value.bool f2), D.v (Value.bool f3), D.v (Value.bool f4)]]), (bx, AObj.arr 6 [x.d])] ++ [] : Store) = ρ at *
      have hw : sget w (wst w o bs ++ ρ) = some (.arr 1 [.agg [.own o 1 bs.length]]) := sget_append_some (wst_box hok)
      have ho : oget 1 o (wst w o bs ++ ρ) = some (bs.map bD) := wst_row hok ρ
      refine Goes.draw [0, 3, 4] [75] [w, bx] [12] [(0, true), (1, true), (2, true), (3, true), (4, true), (5, true), (6, true), (7, true), (8, true), (9, false), (10, false), (11, true), (12, false)] (by kernel_rfl) (by decide) (by kernel_rfl) fun K hK => ?_; simp (maxSteps := 4000000) only [go_sem, ↓reduceIte, reduceCtorEq, Nat.reduceEqDiff, Nat.reduceBEq, Int.reduceBEq, Int.reduceBNe, Nat.reduceLT, Nat.reduceLeDiff, Nat.reduceAdd, Nat.reduceSub, Nat.reduceMul, Int.reduceToNat, Int.reduceEq, Int.reduceLT, Int.reduceLE, e0, e3, e4, h1, hw, ho]
      have htk : List.take bs.length (List.map bD bs) = List.map bD bs := List.take_of_length_le (by simp)
      have hml : (List.map bD bs).length = bs.length := by simp
      have hby : D.v (Value.int IntKind.u8 (IntKind.u8.wrap x.kind)) = bD (UInt8.ofNat (x.kind % 256).toNat) := by
        unfold bD
        congr 2
        simp [IntKind.wrap, IntKind.bits, IntKind.signed]; omega
      rw [htk, hml, hby]
      refine ⟨by omega, ⟨by omega, fun y hy => by rw [hy]; exact ⟨rfl, rfl⟩, by omega, by omega⟩, fun ob hz hf => ?_⟩
      obtain ⟨b0, rfl⟩ : ∃ b, ob = some b := by
        cases ob with
        | none => have := hz rfl; simp at this
        | some b => exact ⟨b, rfl⟩
      clear hz
      have hout : ∀ b, o ≠ some b → sget b (sdelo o (wst w o bs ++ ρ)) = sget b (wst w o bs ++ ρ) := fun b hb => by
        cases o with
        | none => rfl
        | some c =>
          show sget b (sdel c _) = _
          rw [sget_sdel, if_neg (fun e => hb (by rw [e]))]
      have hb0 := hf b0 rfl
      have hbw : w ≠ b0 := fun e => by
        rw [← e, hout w hok.1, hw] at hb0; cases hb0
      have hρ0 : ∀ b x, sget b ρ = some x → o ≠ some b ∧ b ≠ b0 ∧ b ≠ w := fun b x hb => by
        have h0 := hap b (by rw [hb]; simp)
        have h1 : o ≠ some b := fun e => by rw [e] at h0; simp [wst, cellsOf, sget] at h0
        refine ⟨h1, fun e => ?_, fun e => ?_⟩
        · have h3 : sget b0 (wst w o bs ++ ρ) = some x := e ▸ SLe.append_right hap b x hb
          rw [hout b0 (e ▸ h1), h3] at hb0; cases hb0
        · subst e; rw [wst_box hok] at h0; cases h0
      have hbx1 : sget bx ρ = some (.arr 6 [x.d]) := by
        rw [← hρ, List.cons_append, sget_cons, if_neg hne.symm, List.cons_append, sget_self]
      obtain ⟨hx1, hx2, hx3⟩ := hρ0 bx _ hbx1
      have hw2 : sget w (cellsOf (some b0) 1 (List.map bD bs ++ [bD (UInt8.ofNat (x.kind % 256).toNat)]) ++ sdelo o (wst w o bs ++ ρ)) = some (.arr 1 [.agg [.own o 1 bs.length]]) := by
        rw [sget_append_none (by simp [cellsOf, sget, hbw]), hout w hok.1, hw]
      have hx4 : sget bx (cellsOf (some b0) 1 (List.map bD bs ++ [bD (UInt8.ofNat (x.kind % 256).toNat)]) ++ sdelo o (wst w o bs ++ ρ)) = some (.arr 6 [x.d]) := by
        rw [sget_append_none (by simp [cellsOf, sget, hx2]), hout bx hx1]
        exact SLe.append_right hap bx _ hbx1
      have hok2 : wok w (some b0) (bs ++ [UInt8.ofNat (x.kind % 256).toNat]) := ⟨fun e => hbw (by injection e with e; exact e.symm), fun e => by cases e⟩
      have hap2 : Apart ρ (wst w (some b0) (bs ++ [UInt8.ofNat (x.kind % 256).toNat])) := fun b hb => by
        obtain ⟨y, hy⟩ := Option.ne_none_iff_exists'.1 hb
        obtain ⟨q1, q2, q3⟩ := hρ0 b y hy
        simp [wst, cellsOf, sget, q2, q3]
      have hfin : SLe (wst w (some b0) (bs ++ [UInt8.ofNat (x.kind % 256).toNat]) ++ ρ) (sset w (.arr 1 [.agg [.own (some b0) 1 (bs.length + 1)]]) (cellsOf (some b0) 1 (List.map bD bs ++ [bD (UInt8.ofNat (x.kind % 256).toNat)]) ++ sdelo o (wst w o bs ++ ρ))) := by
        refine SLe.append (SLe.cons ?_ (SLe.cons ?_ (SLe.nil _))) (fun b y hb => ?_)
        · rw [sget_sset, if_neg hbw.symm]; simp [cellsOf, sget]
        · rw [sget_sset, if_pos rfl, hw2]; simp
        · obtain ⟨q1, q2, q3⟩ := hρ0 b y hb
          rw [sget_sset, if_neg q3, sget_append_none (by simp [cellsOf, sget, q2]), hout b q1]
          exact SLe.append_right hap b y hb
      generalize hA : cellsOf (some b0) 1 (List.map bD bs ++ [bD (UInt8.ofNat (x.kind % 256).toNat)]) ++ sdelo o (wst w o bs ++ ρ) = A at *
      have hlen : (List.map bD bs ++ [bD (UInt8.ofNat (x.kind % 256).toNat)]).length = bs.length + 1 := by simp
      rw [hlen]
      unfold XAct.d at hx4
      refine ⟨fun b hb => ?_, ?_⟩
      · rcases hb with rfl | rfl
        · rw [hw2, hw]
        · rw [hx4, h1]
      simp only [go_sem, ↓reduceIte, reduceCtorEq, Nat.reduceEqDiff, Nat.reduceBEq, Int.reduceBEq, Int.reduceBNe, Nat.reduceLT, Nat.reduceLeDiff, Nat.reduceAdd, Nat.reduceSub, Nat.reduceMul, Int.reduceToNat, Int.reduceEq, Int.reduceLT, Int.reduceLE, hw2]
      refine hK _ _ (Goes.le (ELe.refl _) hfin (hk' _ _ ⟨rfl, rfl, rfl, ?_, hne⟩))
      rw [← hρ] at hap2 ⊢
      exact ⟨_, hok2, rfl, hap2⟩
    intro env σ hI
    have hlo : ∀ f l n, l.length ≤ n → (opt f l).length ≤ n := fun f l n h => by unfold opt; split <;> simp_all
    have hltx : ∀ s : ByteArray, s.size ≤ 65535 → (tx s).length ≤ 65537 := fun s h => by simp [tx, le]; omega
    have hl32 : ∀ n, (n32 n).length = 4 := fun n => by simp [n32, le]
    have l0 := hlo f0 (tx x.name) 65537 (hltx _ hfit.name)
    have l1 := hlo f1 (tx ⟨x.by_.toArray⟩) 65537 (hltx _ (by rw [size_mk]; exact hfit.by_))
    have l2 := hlo f2 (n32 x.num) 4 (by rw [hl32]; exact Nat.le_refl _)
    have l3' := flatMap_length_le tx 65537 x.names fun s hs => hltx s (hfit.names s hs)
    have l3 := hlo f3 (n32 x.names.length ++ x.names.flatMap tx) (4 + 2 ^ 20 * 65537) (by
      rw [List.length_append, hl32]; have := hfit.many; omega)
    -- the name
    refine Goes.seq (Goes.join (fun env σ => Frm w bx bf x f0 f1 f2 f3 f4 (bs ++ [UInt8.ofNat (x.kind % 256).toNat] ++ opt f0 (tx x.name)) [] env σ) ?_ ?_)
    · intro k' hk'
      have h1 := hI.bx
      have h2 := hI.bf
      unfold XAct.d at h1
      obtain ⟨e0, e3, e4, hst, hne⟩ := hI
      refine Goes.seq ?_
      refine Goes.region [0, 3, 4] fun K hK => ?_; simp (maxSteps := 4000000) only [go_sem, ↓reduceIte, reduceCtorEq, Nat.reduceEqDiff, Nat.reduceBEq, Int.reduceBEq, Int.reduceBNe, Nat.reduceLT, Nat.reduceLeDiff, Nat.reduceAdd, Nat.reduceSub, Nat.reduceMul, Int.reduceToNat, Int.reduceEq, Int.reduceLT, Int.reduceLE, e0, e3, e4, h2]
      refine hK _ _ ?_; clear hK K
      refine Goes.cond rfl (fun hf => ?_) (fun hf => ?_)
      · refine Goes.region [0, 3, 4] fun K hK => ?_; simp (maxSteps := 4000000) only [go_sem, ↓reduceIte, reduceCtorEq, Nat.reduceEqDiff, Nat.reduceBEq, Int.reduceBEq, Int.reduceBNe, Nat.reduceLT, Nat.reduceLeDiff, Nat.reduceAdd, Nat.reduceSub, Nat.reduceMul, Int.reduceToNat, Int.reduceEq, Int.reduceLT, Int.reduceLE, h1]
        refine ⟨_, Try.call35, (hst.text x.name (by simp; omega) hfit.name).mono ?_⟩
        rintro e σ1 ⟨rfl, hst1⟩
        simp only [go_sem, ↓reduceIte, reduceCtorEq, Nat.reduceEqDiff, Nat.reduceBEq, Int.reduceBEq, Int.reduceBNe, Nat.reduceLT, Nat.reduceLeDiff, Nat.reduceAdd, Nat.reduceSub, Nat.reduceMul, Int.reduceToNat, Int.reduceEq, Int.reduceLT, Int.reduceLE]
        refine hK _ _ (hk' _ _ ⟨rfl, rfl, rfl, ?_, hne⟩)
        rw [show opt f0 (tx x.name) = tx x.name from if_pos hf]; exact hst1
      · refine Goes.skip (hk' _ _ ⟨rfl, rfl, rfl, ?_, hne⟩)
        rw [show opt f0 (tx x.name) = [] from if_neg (by rw [hf]; simp), List.append_nil]; exact hst
    clear hI env σ
    intro env σ hI
    -- the bytes
    refine Goes.seq (Goes.join (fun env σ => Frm w bx bf x f0 f1 f2 f3 f4 (bs ++ [UInt8.ofNat (x.kind % 256).toNat] ++ opt f0 (tx x.name) ++ opt f1 (tx ⟨x.by_.toArray⟩)) [] env σ) ?_ ?_)
    · intro k' hk'
      have h1 := hI.bx
      have h2 := hI.bf
      unfold XAct.d at h1
      obtain ⟨e0, e3, e4, hst, hne⟩ := hI
      refine Goes.seq ?_
      refine Goes.region [0, 3, 4] fun K hK => ?_; simp (maxSteps := 4000000) only [go_sem, ↓reduceIte, reduceCtorEq, Nat.reduceEqDiff, Nat.reduceBEq, Int.reduceBEq, Int.reduceBNe, Nat.reduceLT, Nat.reduceLeDiff, Nat.reduceAdd, Nat.reduceSub, Nat.reduceMul, Int.reduceToNat, Int.reduceEq, Int.reduceLT, Int.reduceLE, e0, e3, e4, h2]
      refine hK _ _ ?_; clear hK K
      refine Goes.cond rfl (fun hf => ?_) (fun hf => ?_)
      · have hby := allByte_bD x.by_
        have hbo := bytesOf_bD x.by_
        refine Goes.region [0, 3, 4] fun K hK => ?_; simp (maxSteps := 4000000) only [go_sem, ↓reduceIte, reduceCtorEq, Nat.reduceEqDiff, Nat.reduceBEq, Int.reduceBEq, Int.reduceBNe, Nat.reduceLT, Nat.reduceLeDiff, Nat.reduceAdd, Nat.reduceSub, Nat.reduceMul, Int.reduceToNat, Int.reduceEq, Int.reduceLT, Int.reduceLE, h1, hby, hbo]
        refine ⟨_, Try.call35, (hst.text ⟨x.by_.toArray⟩ (by simp; omega) (by rw [size_mk]; exact hfit.by_)).mono ?_⟩
        rintro e σ1 ⟨rfl, hst1⟩
        simp only [go_sem, ↓reduceIte, reduceCtorEq, Nat.reduceEqDiff, Nat.reduceBEq, Int.reduceBEq, Int.reduceBNe, Nat.reduceLT, Nat.reduceLeDiff, Nat.reduceAdd, Nat.reduceSub, Nat.reduceMul, Int.reduceToNat, Int.reduceEq, Int.reduceLT, Int.reduceLE]
        refine hK _ _ (hk' _ _ ⟨rfl, rfl, rfl, ?_, hne⟩)
        rw [show opt f1 (tx ⟨x.by_.toArray⟩) = tx ⟨x.by_.toArray⟩ from if_pos hf]; exact hst1
      · refine Goes.skip (hk' _ _ ⟨rfl, rfl, rfl, ?_, hne⟩)
        rw [show opt f1 (tx ⟨x.by_.toArray⟩) = [] from if_neg (by rw [hf]; simp), List.append_nil]; exact hst
    clear hI env σ
    intro env σ hI
    -- the number
    refine Goes.seq (Goes.join (fun env σ => Frm w bx bf x f0 f1 f2 f3 f4 (bs ++ [UInt8.ofNat (x.kind % 256).toNat] ++ opt f0 (tx x.name) ++ opt f1 (tx ⟨x.by_.toArray⟩) ++ opt f2 (n32 x.num)) [] env σ ∧ (f2 = true → numOk (leastD x.kind) x.num = true)) ?_ ?_)
    · intro k' hk'
      have h1 := hI.bx
      have h2 := hI.bf
      unfold XAct.d at h1
      obtain ⟨e0, e3, e4, hst, hne⟩ := hI
      refine Goes.seq ?_
      refine Goes.region [0, 3, 4] fun K hK => ?_; simp (maxSteps := 4000000) only [go_sem, ↓reduceIte, reduceCtorEq, Nat.reduceEqDiff, Nat.reduceBEq, Int.reduceBEq, Int.reduceBNe, Nat.reduceLT, Nat.reduceLeDiff, Nat.reduceAdd, Nat.reduceSub, Nat.reduceMul, Int.reduceToNat, Int.reduceEq, Int.reduceLT, Int.reduceLE, e0, e3, e4, h2]
      refine hK _ _ ?_; clear hK K
      refine Goes.cond rfl (fun hf => ?_) (fun hf => ?_)
      · refine Goes.seq ?_
        refine Goes.region [0, 3, 4] fun K hK => ?_; simp (maxSteps := 4000000) only [go_sem, ↓reduceIte, reduceCtorEq, Nat.reduceEqDiff, Nat.reduceBEq, Int.reduceBEq, Int.reduceBNe, Nat.reduceLT, Nat.reduceLeDiff, Nat.reduceAdd, Nat.reduceSub, Nat.reduceMul, Int.reduceToNat, Int.reduceEq, Int.reduceLT, Int.reduceLE]
        refine hK _ _ ?_; clear hK K
        refine Goes.seq (Goes.join (fun env' σ' => eget 0 env' = .ptr w 1 0 0 ∧ eget 3 env' = .ptr bx 6 0 0 ∧ eget 4 env' = .ptr bf 5 0 0 ∧ eget 6 env' = .v (.int .i64 (leastD x.kind)) ∧ σ' = σ) ?_ ?_)
        · intro k2 hk2
          refine Goes.seq ?_
          refine Goes.region [0, 3, 4, 6] fun K hK => ?_; simp (maxSteps := 4000000) only [go_sem, ↓reduceIte, reduceCtorEq, Nat.reduceEqDiff, Nat.reduceBEq, Int.reduceBEq, Int.reduceBNe, Nat.reduceLT, Nat.reduceLeDiff, Nat.reduceAdd, Nat.reduceSub, Nat.reduceMul, Int.reduceToNat, Int.reduceEq, Int.reduceLT, Int.reduceLE, h1]
          refine hK _ _ ?_; clear hK K
          refine Goes.cond rfl (fun h9 => ?_) (fun h9 => ?_)
          · refine Goes.region [0, 3, 4] fun K hK => ?_; simp (maxSteps := 4000000) only [go_sem, ↓reduceIte, reduceCtorEq, Nat.reduceEqDiff, Nat.reduceBEq, Int.reduceBEq, Int.reduceBNe, Nat.reduceLT, Nat.reduceLeDiff, Nat.reduceAdd, Nat.reduceSub, Nat.reduceMul, Int.reduceToNat, Int.reduceEq, Int.reduceLT, Int.reduceLE]
            refine hK _ _ (hk2 _ _ ⟨rfl, rfl, rfl, ?_, rfl⟩)
            have : leastD x.kind = -2147483648 := if_pos (by simpa using h9)
            rw [this]; rfl
          · refine Goes.skip (hk2 _ _ ⟨rfl, rfl, rfl, ?_, rfl⟩)
            have : leastD x.kind = 0 := if_neg (by simpa using h9)
            rw [this]; rfl
        · rintro env' σ' ⟨e0, e3, e4, e6, rfl⟩
          refine Goes.region [0, 3, 4, 6] fun K hK => ?_; simp (maxSteps := 4000000) only [go_sem, ↓reduceIte, reduceCtorEq, Nat.reduceEqDiff, Nat.reduceBEq, Int.reduceBEq, Int.reduceBNe, Nat.reduceLT, Nat.reduceLeDiff, Nat.reduceAdd, Nat.reduceSub, Nat.reduceMul, Int.reduceToNat, Int.reduceEq, Int.reduceLT, Int.reduceLE, e0, e3, e4, e6, h1]
          refine ⟨_, Try.call36, (hst.number x.num (leastD x.kind) (by simp; omega)).mono ?_⟩
          intro e σ1 hR
          by_cases hc : leastD x.kind ≤ x.num ∧ x.num < 2147483648
          · rw [if_pos hc] at hR
            obtain ⟨rfl, hst1⟩ := hR
            simp only [go_sem, ↓reduceIte, reduceCtorEq, Nat.reduceEqDiff, Nat.reduceBEq, Int.reduceBEq, Int.reduceBNe, Nat.reduceLT, Nat.reduceLeDiff, Nat.reduceAdd, Nat.reduceSub, Nat.reduceMul, Int.reduceToNat, Int.reduceEq, Int.reduceLT, Int.reduceLE]
            refine hK _ _ (hk' _ _ ⟨⟨rfl, rfl, rfl, ?_, hne⟩, fun _ => by simp [numOk, hc]⟩)
            rw [show opt f2 (n32 x.num) = n32 x.num from if_pos hf]; exact hst1
          · rw [if_neg hc] at hR
            obtain ⟨rfl, rfl⟩ := hR
            simp only [go_sem, ↓reduceIte, reduceCtorEq, Nat.reduceEqDiff, Nat.reduceBEq, Int.reduceBEq, Int.reduceBNe, Nat.reduceLT, Nat.reduceLeDiff, Nat.reduceAdd, Nat.reduceSub, Nat.reduceMul, Int.reduceToNat, Int.reduceEq, Int.reduceLT, Int.reduceLE]
            have hno : numOk (leastD x.kind) x.num = false := by
              cases hb : numOk (leastD x.kind) x.num with
              | false => rfl
              | true => simp [numOk] at hb; exact absurd hb hc
            have hw : x.wrong = 1 := by unfold XAct.wrong; rw [if_neg (by rw [hfm]; simp), if_pos ⟨by rw [hnum]; exact hf, hno⟩]
            have := hpan (by rw [hw]; decide)
            rw [hw] at this
            exact this.le (SLe.nil _)
      · refine Goes.skip (hk' _ _ ⟨⟨rfl, rfl, rfl, ?_, hne⟩, fun h => by rw [hf] at h; cases h⟩)
        rw [show opt f2 (n32 x.num) = [] from if_neg (by rw [hf]; simp), List.append_nil]; exact hst
    clear hI env σ
    rintro env σ ⟨hI, hno⟩
    refine Goes.seq (Goes.join _ (fun k' hk' => names_part hI hfit.many hfit.names (by simp; omega) k' hk') ?_)
    clear hI env σ
    intro env σ hI
    have ht := hfit.tails
    refine tails_part hI ht (by simp; omega) (fun hbad σ => ?_) [] (fun hgood env σ hI => ?_)
    · have hw : x.wrong = 1 := by
        unfold XAct.wrong
        rw [if_neg (by rw [hfm]; simp), if_neg (by rw [hnum]; rintro ⟨h1, h2⟩; rw [hno h1] at h2; cases h2), if_pos hbad.2]
      have := hpan (by rw [hw]; decide)
      rw [hw] at this
      exact this.le (SLe.nil _)
    · obtain ⟨o', hok', rfl, _⟩ := hI.st.ex
      refine Goes.le (ELe.refl _) (SLe.append_left _ _) (Goes.done hC Try.func18 (by simp [go_sem]) ?_)
      have hw : x.wrong = 0 := by
        unfold XAct.wrong
        rw [if_neg (by rw [hfm]; simp), if_neg (by rw [hnum]; rintro ⟨h1, h2⟩; rw [hno h1] at h2; cases h2), if_neg (by
          cases hb : f4 with
          | true => rw [hgood hb]; simp
          | false => rw [hf4 hb]; simp)]
      rw [if_pos hw]
      rw [hbytes]
      simp only [List.append_assoc] at hok' ⊢
      exact ⟨rfl, o', hok', rfl⟩
end Go.Ab.S21
