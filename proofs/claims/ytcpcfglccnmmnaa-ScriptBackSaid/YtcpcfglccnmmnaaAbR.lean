/- What a statement's arguments are in the abstract machine. -/
import Derived.Test.YtcpcfglccnmmnaaAbY
import Derived.Deep.Slices
import Derived.Below
import Derived.ChangeSame
import Derived.Carry
import Derived.ProofKit
set_option linter.unusedSimpArgs false
set_option linter.unusedVariables false
set_option linter.constructorNameAsVariable false
namespace Go.Ab
open Go

inductive Tp where
  | int (k : IntKind)
  | bool
  | str
  | slice (e : Tp)
  | struct (fs : List Tp)

def Tp.one : Tp → Bool
  | .struct _ => false
  | _ => true

mutual
def Tp.n : Tp → Nat
  | .struct fs => Tp.ns fs
  | _ => 1
def Tp.ns : List Tp → Nat
  | [] => 0
  | f :: fs => f.n + Tp.ns fs
end

mutual
/-- The cells of a value of such a type. -/
def WT : Tp → List D → Prop
  | .int k, ds => ∃ n : Int, ds = [.v (.int k n)] ∧ (Lit.int k n).wf = true
  | .bool, ds => ∃ b : Bool, ds = [.v (.bool b)]
  | .str, ds => ∃ s : ByteArray, ds = [.v (.string s)] ∧ s.size ≤ maxLen
  | .slice e, ds => ∃ xs : List D, ds = [.slc xs] ∧ xs.length ≤ maxLen ∧ ∀ x ∈ xs, (e.one = true → x.cells = [x]) ∧ (e.one = false → ∃ cs, x = .agg cs) ∧ WT e x.cells
  | .struct fs, ds => WTs fs ds
def WTs : List Tp → List D → Prop
  | [], ds => ds = []
  | f :: fs, ds => ∃ a b, ds = a ++ b ∧ WT f a ∧ WTs fs b
end

mutual
def HasTp (P : Program) : Tp → TypeId → Prop
  | .int k, t => P.underlying t = some (.int k)
  | .bool, t => P.underlying t = some .bool
  | .str, t => P.underlying t = some .string
  | .slice e, t => ∃ te, P.underlying t = some (.slice te) ∧ P.cellsOf te = e.n ∧ 0 < e.n ∧ HasTp P e te
  | .struct fs, t => ∃ Fs : List Field, P.underlying t = some (.struct Fs.toArray) ∧ HasTps P 0 fs Fs ∧ P.cellsOf t = Tp.ns fs
def HasTps (P : Program) : Nat → List Tp → List Field → Prop
  | _, [], Fs => Fs = []
  | off, T :: Ts, Fs => ∃ F Fs', Fs = F :: Fs' ∧ F.offset = off ∧ P.cellsOf F.type = T.n ∧ HasTp P T F.type ∧ HasTps P (off + T.n) Ts Fs'
end

section
variable {H : Type} {enc : TypeId × Value → H} {P : Program} {w : World} {base : Nat} {spare : Nat → Bool} {held : Bool}

theorem cellsAt_of {b off n : Nat} {vals : List Value} (h : ∀ i, i < n → w.cell? ⟨b, off + i, none⟩ = vals[i]?) (hl : vals.length = n) : CellsAt w b off vals := fun k x hk => by
  have hlt : k < vals.length := (List.getElem?_eq_some_iff.1 hk).1
  rw [h k (by omega), hk]

theorem rows_rep {S : Nat → Prop} {a : Addr} {n : Nat} {Q : D → Prop} : ∀ (len : Nat), (∀ i, i < len → ∃ cs' x, w.cells? base (a.add (i * n)) n = some cs' ∧ RepL w S x.cells cs' ∧ x.cells.length = n ∧ Q x) →
    ∃ xs vals, xs.length = len ∧ RepL w S (flat xs) vals ∧ vals.length = len * n ∧ (∀ x ∈ xs, x.cells.length = n ∧ Q x) ∧ ∀ k, k < len * n → w.cell? (a.add k) = vals[k]?
  | 0, _ => ⟨[], [], rfl, .nil, by simp, by simp, by simp⟩
  | len + 1, h => by
    obtain ⟨xs, vals, h1, h2, h3, h4, h5⟩ := rows_rep len fun i hi => h i (by omega)
    obtain ⟨cs', x, hc, hr, hl, hq⟩ := h len (by omega)
    obtain ⟨_, hcl, hat⟩ := World.cells?_some hc
    refine ⟨xs ++ [x], vals ++ cs', by simp [h1], ?_, by simp [h3, hcl, Nat.succ_mul], ?_, fun k hk => ?_⟩
    · simp only [flat_append, flat_cons, flat_nil, List.append_nil]
      exact h2.append hr
    · intro y hy
      rcases List.mem_append.1 hy with hy | hy
      · exact h4 y hy
      · simp only [List.mem_singleton] at hy; subst hy; exact ⟨hl, hq⟩
    · by_cases hlt : k < len * n
      · rw [h5 k hlt, List.getElem?_append_left (by rw [h3]; exact hlt)]
      · have hs : (len + 1) * n = len * n + n := Nat.succ_mul ..
        rw [hs] at hk
        have := hat (k - len * n) (by omega)
        rw [List.getElem?_append_right (by rw [h3]; omega), h3, ← this]
        have he : a.add k = (a.add (len * n)).add (k - len * n) := by
          rw [Go.Deep.add_add, Nat.add_sub_cancel' (by omega)]
        rw [he]

theorem one_cells : ∀ {e : Tp} {d : D}, e.one = true → WT e [d] → d.cells = [d]
  | .int k, d, _, h => by unfold WT at h; obtain ⟨n, h, _⟩ := h; cases h; rfl
  | .bool, d, _, h => by unfold WT at h; obtain ⟨n, h⟩ := h; cases h; rfl
  | .str, d, _, h => by unfold WT at h; obtain ⟨n, h, _⟩ := h; cases h; rfl
  | .slice e, d, _, h => by unfold WT at h; obtain ⟨n, h, _⟩ := h; cases h; rfl
  | .struct fs, d, h, _ => by cases h
theorem one_n : ∀ {e : Tp}, e.one = true → e.n = 1
  | .int k, _ => by simp [Tp.n]
  | .bool, _ => by simp [Tp.n]
  | .str, _ => by simp [Tp.n]
  | .slice e, _ => by simp [Tp.n]
  | .struct fs, h => by cases h

mutual
theorem trod_wt : ∀ (T : Tp) {t : TypeId} {fuel : Nat} {cs : List Value} {x : DataW H × List MemPlace}, HasTp P T t → DataW.trod enc P w base spare held fuel t cs = some x →
    ∃ ds, WT T ds ∧ ds.length = T.n ∧ RepL w (fun b => b < w.heap.size) ds cs
  | .int k, t, fuel, cs, x, ht, h => by
    unfold HasTp at ht
    obtain ⟨n, rfl, _, hwf⟩ := DataW.trod_int ht h
    exact ⟨[.v (.int k n)], ⟨n, rfl, hwf⟩, rfl, .one (.v rfl)⟩
  | .bool, t, fuel, cs, x, ht, h => by
    unfold HasTp at ht
    obtain ⟨b, rfl, _⟩ := DataW.trod_bool ht h
    exact ⟨[.v (.bool b)], ⟨b, rfl⟩, rfl, .one (.v rfl)⟩
  | .str, t, fuel, cs, x, ht, h => by
    unfold HasTp at ht
    obtain ⟨s, rfl, _, hs⟩ := DataW.trod_string ht h
    exact ⟨[.v (.string s)], ⟨s, rfl, hs⟩, rfl, .one (.v rfl)⟩
  | .slice e, t, fuel, cs, x, ht, h => by
    unfold HasTp at ht
    obtain ⟨te, hu, hc, hnz, hte⟩ := ht
    rcases Deep.open_slice hu h with ⟨rfl, _⟩ | ⟨a, len, cap, m, n, Dd, Pl, rfl, hb, hl, hm, hmm, _, hi⟩
    · exact ⟨[.slc []], ⟨[], rfl, by simp, by simp⟩, rfl, .one .slc0⟩
    · have hlm : len ≤ m := by rw [hmm]; split <;> omega
      obtain ⟨xs, vals, h1, h2, h3, h4, h5⟩ := rows_rep (w := w) (base := base) (S := fun b => b < w.heap.size) (a := a) (n := e.n) (Q := fun x => (e.one = true → x.cells = [x]) ∧ (e.one = false → ∃ cs, x = .agg cs) ∧ WT e x.cells) len fun i hil => by
        obtain ⟨cs', hc', ht'⟩ := hi i (by omega)
        rw [hc] at hc'
        obtain ⟨ds, hw, hlen, hr⟩ := trod_wt e hte ht'
        cases he : e.one with
        | false => exact ⟨cs', .agg ds, hc', hr, hlen, by simp, fun _ => ⟨ds, rfl⟩, hw⟩
        | true =>
          have hn : e.n = 1 := one_n he
          rw [hn] at hlen
          match ds, hlen with
          | [d], _ =>
            have hdc : d.cells = [d] := one_cells he hw
            exact ⟨cs', d, hc', by rw [hdc]; exact hr, by rw [hdc, hn]; rfl, fun _ => hdc, by simp, by rw [hdc]; exact hw⟩
      by_cases hz : len = 0
      · subst hz
        exact ⟨[.slc []], ⟨[], rfl, by simp, by simp⟩, rfl, .one .slc0⟩
      · have hpos : 0 < len * e.n := Nat.mul_pos (by omega) hnz
        have h0 := h5 0 hpos
        have hv0 : 0 < vals.length := by omega
        rw [List.getElem?_eq_getElem hv0, show a.add 0 = a from rfl] at h0
        have hsp : a.spot = none ∧ a.block < w.heap.size := by
          unfold World.cell? at h0
          split at h0
          · rename_i hb'
            split at h0
            · cases h0
            · rename_i hs
              exact ⟨by simpa using hs, (Array.getElem?_eq_some_iff.1 hb').1⟩
          · cases h0
        obtain ⟨ab, ao, asp⟩ := a
        obtain ⟨hs1, hs2⟩ := hsp
        simp only at hs1 hs2
        subst hs1
        refine ⟨[.slc xs], ⟨xs, rfl, by rw [h1]; omega, fun x hx => (h4 x hx).2⟩, rfl, .one ?_⟩
        rw [← h1]
        refine Rep.slc (sz := e.n) hs2 h2 (cellsAt_of (n := len * e.n) (fun i hi => ?_) h3) (fun x hx => (h4 x hx).1) (by omega)
        have := h5 i hi
        rw [← this]
        unfold Addr.add
        split
        · rename_i hz; rw [hz]; rfl
        · rfl
  | .struct fs, t, fuel, cs, x, ht, h => by
    unfold HasTp at ht
    obtain ⟨Fs, hu, hF, hc⟩ := ht
    obtain ⟨xs, n, rfl, _, hlen, hxl, hf⟩ := DataW.trod_struct hu h
    obtain ⟨ds, hw, hl, hr⟩ := trods_wt fs (off := 0) (Fs := Fs) (cs := cs) (fuel := n) hF (by rw [hlen, hc]; omega) fun F hF' => by
      obtain ⟨i, hi, rfl⟩ := List.getElem_of_mem hF'
      have := hf i Fs[i] (by simp)
      have hx : i < xs.length := by rw [hxl]; simpa using hi
      rw [List.getElem?_eq_getElem hx] at this
      exact ⟨_, this⟩
    exact ⟨ds, hw, by rw [hl]; rfl, by simpa using hr⟩
theorem trods_wt : ∀ (fs : List Tp) {off : Nat} {Fs : List Field} {cs : List Value} {fuel : Nat}, HasTps P off fs Fs → cs.length = off + Tp.ns fs →
    (∀ F ∈ Fs, ∃ x, DataW.trod enc P w base spare held fuel F.type ((cs.drop F.offset).take (P.cellsOf F.type)) = some x) →
    ∃ ds, WTs fs ds ∧ ds.length = Tp.ns fs ∧ RepL w (fun b => b < w.heap.size) ds (cs.drop off)
  | [], off, Fs, cs, fuel, _, hl, _ => ⟨[], rfl, rfl, by rw [List.drop_of_length_le (by simp [Tp.ns] at hl; omega)]; exact .nil⟩
  | T :: Ts, off, Fs, cs, fuel, hF, hl, h => by
    unfold HasTps at hF
    obtain ⟨F, Fs', rfl, hoff, hc, hT, hTs⟩ := hF
    obtain ⟨x, hx⟩ := h F (by simp)
    obtain ⟨ds, hw, hdl, hr⟩ := trod_wt T hT hx
    simp only [Tp.ns] at hl
    obtain ⟨es, hw2, hel, hr2⟩ := trods_wt Ts hTs (cs := cs) (fuel := fuel) (by omega) fun F' hF' => h F' (by simp [hF'])
    refine ⟨ds ++ es, ⟨ds, es, rfl, hw, hw2⟩, by simp [Tp.ns, hdl, hel], ?_⟩
    have : cs.drop off = (cs.drop off).take T.n ++ cs.drop (off + T.n) := by
      conv => lhs; rw [← List.take_append_drop T.n (cs.drop off), List.drop_drop]
    rw [this]
    rw [hoff, hc] at hr
    exact hr.append hr2
end
end
end Go.Ab
namespace Go.Ab
open Go Go.RowKit Go.WideShapes Go.ChangeShapes

/-- One argument of such a type. -/
def WTv (T : Tp) (d : D) : Prop := (T.one = true → WT T [d]) ∧ (T.one = false → ∃ cs, d = .agg cs ∧ WT T cs)
def WTvs : List Tp → List D → Prop
  | [], ds => ds = []
  | T :: Ts, ds => ∃ d ds', ds = d :: ds' ∧ WTv T d ∧ WTvs Ts ds'
def HasAll (P : Program) : List Tp → List TypeId → Prop
  | [], ts => ts = []
  | T :: Ts, ts => ∃ t ts', ts = t :: ts' ∧ HasTp P T t ∧ HasAll P Ts ts'

section
variable {H : Type} {enc : TypeId × Value → H} {P : Program} {W : World} {base : Nat} {spare : Nat → Bool} {held : Bool}

theorem okWide_one {T : Tp} {t : TypeId} {v : Value} {r : Reach} (ho : T.one = true) (ht : HasTp P T t) (hv : Value.okWide P W r base t v) : v.cells.toList = [v] := by
  cases T with
  | int k => unfold HasTp at ht; obtain ⟨n, rfl⟩ := okWide_int ht hv; rfl
  | bool => unfold HasTp at ht; obtain ⟨n, rfl⟩ := okWide_bool ht hv; rfl
  | str => unfold HasTp at ht; obtain ⟨n, rfl⟩ := okWide_string ht hv; rfl
  | slice e => unfold HasTp at ht; obtain ⟨te, hu, _⟩ := ht; obtain ⟨a, l, c, rfl⟩ := okWide_slice hu hv; rfl
  | struct fs => cases ho

theorem arg_rep {T : Tp} {t : TypeId} {v : Value} {d : DataW H} {ps : List MemPlace} {r : Reach} {b0 : Nat} (ht : HasTp P T t) (h : DataW.Trod enc P W base spare held t v d ps) (hv : Value.okWide P W r b0 t v) :
    ∃ x, WTv T x ∧ Rep W (fun b => b < W.heap.size) x v := by
  obtain ⟨fuel, hf⟩ := h
  obtain ⟨ds, hw, hl, hr⟩ := trod_wt T ht hf
  cases ho : T.one with
  | true =>
    rw [okWide_one ho ht hv] at hr
    rw [one_n ho] at hl
    match ds, hl with
    | [x], _ =>
      obtain ⟨y, ys, he, h1, h2⟩ := hr.cons_inv
      simp only [List.cons.injEq] at he
      obtain ⟨rfl, _⟩ := he
      exact ⟨x, ⟨fun _ => hw, fun h => by rw [ho] at h; cases h⟩, h1⟩
  | false =>
    cases T with
    | struct fs =>
      unfold HasTp at ht
      obtain ⟨Fs, hu, _, _⟩ := ht
      obtain ⟨cs, rfl, hsz⟩ := okWide_struct hu hv
      exact ⟨.agg ds, ⟨(fun h => by cases h), fun _ => ⟨ds, rfl, hw⟩⟩, .agg hr⟩
    | _ => cases ho

theorem args_rep {r : Reach} {b0 : Nat} : ∀ (Ts : List Tp) {ts : List TypeId} {vs : List Value} {ds : List (DataW H)} {ps : List MemPlace}, HasAll P Ts ts → DataW.TrodAll enc P W base spare held ts vs ds ps →
    (∀ (j : Nat) t v, ts[j]? = some t → vs[j]? = some v → Value.okWide P W r b0 t v) → ∃ xs, WTvs Ts xs ∧ RepL W (fun b => b < W.heap.size) xs vs
  | [], ts, vs, ds, ps, hT, h, hv => by
    unfold HasAll at hT
    subst hT
    cases vs with
    | nil => exact ⟨[], rfl, .nil⟩
    | cons v vs => cases ds <;> simp [DataW.TrodAll] at h
  | T :: Ts, ts, vs, ds, ps, hT, h, hv => by
    obtain ⟨t, ts', rfl, h1, h2⟩ := hT
    cases vs with
    | nil => cases ds <;> simp [DataW.TrodAll] at h
    | cons v vs =>
      cases ds with
      | nil => simp [DataW.TrodAll] at h
      | cons d ds =>
        obtain ⟨p, q, hd, hr, rfl⟩ := h
        obtain ⟨x, hx, hrx⟩ := arg_rep h1 hd (hv 0 t v rfl rfl)
        obtain ⟨xs, hxs, hrs⟩ := args_rep Ts h2 hr fun j t v ht hv' => hv (j + 1) t v (by simpa using ht) (by simpa using hv')
        exact ⟨x :: xs, ⟨x, xs, rfl, hx, hxs⟩, .cons hrx hrs⟩

theorem law_calls {Ts : List Tp} {ts : List TypeId} {args : Array Value} {ds : List (DataW H)} {ps : List MemPlace} {r : Reach} {b0 : Nat} {k : FuncId} (law : ∀ xs, WTvs Ts xs → ACalls P k xs [] (fun e _ => e = .ret (.v (.bool true))))
    (hT : HasAll P Ts ts) (hA : DataW.TrodAll enc P W base spare held ts args.toList ds ps) (hv : ∀ (j : Nat) t v, ts[j]? = some t → args.toList[j]? = some v → Value.okWide P W r b0 t v) :
    Calls P k args W fun e W' => e = .returned (.bool true) ∧ Below W.heap.size W W' := by
  obtain ⟨xs, hw, hr⟩ := args_rep Ts hT hA hv
  have := law xs hw W _ args.toList (fun _ h => h) (fun b o h => by simp at h) hr
  rw [show args.toList.toArray = args by simp] at this
  refine this.mono ?_
  rintro e W' ⟨ae, σ', S', rfl, hend, _, hfr⟩
  cases e with
  | returned v =>
    have : v = .bool true := Rep.v_inv hend
    subst this
    exact ⟨rfl, ⟨hfr.os, hfr.tape, hfr.output, hfr.size, fun b hb => hfr.block b hb (fun h => h rfl)⟩⟩
  | panicked c => exact hend.elim
  | outgrown => exact hend.elim

theorem trodAll_stays (hl : laidOutB P = true) {W' : World} {sp : Nat → Bool} : ∀ {ts : List TypeId} {vs : List Value} {ds : List (DataW H)} {ps : List MemPlace}, (∀ t ∈ ts, P.readableRec t = true ∧ t < P.types.size) →
    DataW.TrodAll enc P W 0 (fun _ => true) true ts vs ds ps → (∀ x ∈ ps, x.block < W.heap.size) → Below W.heap.size W W' → (∀ x ∈ ps, sp x.block = true) → DataW.TrodAll enc P W' 0 sp true ts vs ds ps
  | [], vs, ds, ps, _, h, _, _, _ => by cases vs <;> cases ds <;> simp_all [DataW.TrodAll]
  | t :: ts, vs, ds, ps, hr, h, hlt, hb, hsp => by
    cases vs with
    | nil => cases ds <;> simp [DataW.TrodAll] at h
    | cons v vs =>
      cases ds with
      | nil => simp [DataW.TrodAll] at h
      | cons d ds =>
        obtain ⟨p, q, hd, hrest, rfl⟩ := h
        refine ⟨p, q, ?_, trodAll_stays hl (fun t ht => hr t (by simp [ht])) hrest (fun x hx => hlt x (by simp [hx])) hb (fun x hx => hsp x (by simp [hx])), rfl⟩
        exact WideElems.Trod_stays hl (hr t (by simp)).1 (hr t (by simp)).2 hd (fun x hx => hb.same (hlt x (by simp [hx]))) (fun x hx => hsp x (by simp [hx]))

theorem post_true {f : Func} {s : ChangeSpec} {W' : World} {args : Array Value} {ds gs : List (DataW H)} {before : List MemPlace} (hW : DataW.Whole enc P f.params.toList s.vars false W args.toList ds gs before)
    (hl : laidOutB P = true) (hr : ∀ t ∈ f.params.toList, P.readableRec t = true ∧ t < P.types.size) {tb : TypeId} (htb : P.underlying tb = some .bool) (hres : f.resultTypes = #[tb]) (hvars : s.vars = [])
    (hfn : s.fn H (ds ++ gs) = { results := [.lit (.bool true)], args := ds }) (hb : Below W.heap.size W W') : s.post enc P f false true false false W args (.bool true) W' := by
  obtain ⟨p, q, hA, hV, rfl, hz, hn⟩ := hW
  have hW : DataW.Whole enc P f.params.toList s.vars false W args.toList ds gs (p ++ q) := ⟨p, q, hA, hV, rfl, hz, hn⟩
  rw [hvars] at hV
  obtain ⟨rfl, rfl⟩ := trodVars_none hV
  have hlt : ∀ x ∈ p ++ [], x.block < W.heap.size := fun x hx => hW.lt x hx
  have hlt' : ∀ x ∈ p, x.block < W.heap.size := fun x hx => hlt x (by simpa using hx)
  have hargs : ∀ sp : Nat → Bool, (∀ x ∈ p, sp x.block = true) → DataW.TrodAll enc P W' 0 sp true f.params.toList args.toList ds p := fun sp hsp => trodAll_stays hl hr hA hlt' hb hsp
  refine ⟨ds, [], p ++ [], [], p, [], hW, ?_, ?_, ?_, ?_, fun h => by cases h⟩
  · rw [hres, hfn]
    exact trodAll_mk1 (shut_bool htb _)
  · rw [hfn]
    exact hargs _ fun x hx => by simpa using hlt' x hx
  · rw [hvars, hfn]; rfl
  · exact World.keptBut_mono (fun x hx => ⟨hx, Or.inr (by simpa using hx)⟩) (hb.frame (· ∈ p ++ []))
end
end Go.Ab
namespace Go.Ab
open Go
mutual
def hasTpB (P : Program) : Tp → TypeId → Bool
  | .int k, t => match P.underlying t with | some (.int k') => decide (k' = k) | _ => false
  | .bool, t => match P.underlying t with | some .bool => true | _ => false
  | .str, t => match P.underlying t with | some .string => true | _ => false
  | .slice e, t => match P.underlying t with | some (.slice te) => decide (P.cellsOf te = e.n) && decide (0 < e.n) && hasTpB P e te | _ => false
  | .struct fs, t => match P.underlying t with | some (.struct Fs) => hasTpsB P 0 fs Fs.toList && decide (P.cellsOf t = Tp.ns fs) | _ => false
def hasTpsB (P : Program) : Nat → List Tp → List Field → Bool
  | _, [], Fs => Fs.isEmpty
  | off, T :: Ts, F :: Fs => decide (F.offset = off) && decide (P.cellsOf F.type = T.n) && hasTpB P T F.type && hasTpsB P (off + T.n) Ts Fs
  | _, _ :: _, [] => false
end
mutual
theorem hasTp_of {P : Program} : ∀ (T : Tp) {t : TypeId}, hasTpB P T t = true → HasTp P T t
  | .int k, t, h => by
    unfold hasTpB at h; unfold HasTp
    split at h
    · rename_i hu; rw [hu, of_decide_eq_true h]
    · cases h
  | .bool, t, h => by
    unfold hasTpB at h; unfold HasTp
    split at h
    · assumption
    · cases h
  | .str, t, h => by
    unfold hasTpB at h; unfold HasTp
    split at h
    · assumption
    · cases h
  | .slice e, t, h => by
    unfold hasTpB at h; unfold HasTp
    split at h
    · rename_i te hu
      simp only [Bool.and_eq_true, decide_eq_true_eq] at h
      exact ⟨te, hu, h.1.1, h.1.2, hasTp_of e h.2⟩
    · cases h
  | .struct fs, t, h => by
    unfold hasTpB at h; unfold HasTp
    split at h
    · rename_i Fs hu
      simp only [Bool.and_eq_true, decide_eq_true_eq] at h
      exact ⟨Fs.toList, by rw [hu], hasTps_of fs h.1, h.2⟩
    · cases h
theorem hasTps_of {P : Program} : ∀ (fs : List Tp) {off : Nat} {Fs : List Field}, hasTpsB P off fs Fs = true → HasTps P off fs Fs
  | [], off, Fs, h => by
    unfold hasTpsB at h; unfold HasTps
    simpa using h
  | T :: Ts, off, [], h => by unfold hasTpsB at h; cases h
  | T :: Ts, off, F :: Fs, h => by
    unfold hasTpsB at h; unfold HasTps
    simp only [Bool.and_eq_true, decide_eq_true_eq] at h
    exact ⟨F, Fs, rfl, h.1.1.1, h.1.1.2, hasTp_of T h.1.2, hasTps_of Ts h.2⟩
end
def hasAllB (P : Program) : List Tp → List TypeId → Bool
  | [], ts => ts.isEmpty
  | T :: Ts, t :: ts => hasTpB P T t && hasAllB P Ts ts
  | _ :: _, [] => false
theorem hasAll_of {P : Program} : ∀ (Ts : List Tp) {ts : List TypeId}, hasAllB P Ts ts = true → HasAll P Ts ts
  | [], ts, h => by unfold hasAllB at h; unfold HasAll; simpa using h
  | T :: Ts, [], h => by unfold hasAllB at h; cases h
  | T :: Ts, t :: ts, h => by
    unfold hasAllB at h; unfold HasAll
    simp only [Bool.and_eq_true] at h
    exact ⟨t, ts, rfl, hasTp_of T h.1, hasAll_of Ts h.2⟩
end Go.Ab
