/- A part of a proof about the given program: the abstract machine, what functions compute, laid in few texts. -/
import Derived.Test.YticjnnmnjfpopaaGreatDoorKCi
import Derived.Test.YticjnnmnjfpopaaGreatDoorTie
import Derived.Test.YticjnnmnjfpopaaGreatDoorCards
import Derived.ProofKit
import Derived.LaidMore
import Derived.OpenShut
import Derived.Lay
import Derived.SevenTiedAt
import Derived.Stop.Joined
import Derived.Lib.LaidU8
open Nat renaming reduceEqDiff → zqa, reduceBEq → zqb, reduceLT → zqe, reduceLeDiff → zqf, reduceAdd → zqg, reduceSub → zqh, reduceMul → zqi
open Int renaming reduceBEq → zqc, reduceBNe → zqd, reduceToNat → zqj, reduceEq → zqk, reduceLT → zql, reduceLE → zqm
set_option linter.unusedSimpArgs false
set_option linter.unusedVariables false
set_option linter.constructorNameAsVariable false
namespace Go.Ab.S16
open Go Go.Proofs Go.RowKit
theorem spans_len (p : Nat → Bool) (s : ByteArray) : ∀ (f pos : Nat) (st : Option Nat) (acc : List (Nat × Nat)), (Lib.spansFromP p s f pos st acc).1.length ≤ acc.length + f
  | 0, _, _, _ => Nat.le_refl _
  | f + 1, pos, st, acc => by
    unfold Lib.spansFromP
    split
    · split
      · split
        · refine Nat.le_trans (spans_len p s f _ _ _) ?_
          rw [List.length_append]
          simp; omega
        · exact Nat.le_trans (spans_len p s f _ _ _) (by omega)
      · split
        · exact Nat.le_trans (spans_len p s f _ _ _) (by omega)
        · exact Nat.le_trans (spans_len p s f _ _ _) (by omega)
    · exact Nat.le_add_right _ _
theorem words_len (s : ByteArray) : (wordsM s).length ≤ s.size + 1 := by
  unfold wordsM Lib.goFieldsP Lib.spansOfP
  rw [List.length_map]
  have := spans_len (fun x => x == 32) s s.size 0 none []
  generalize Lib.spansFromP (fun x => x == 32) s s.size 0 none [] = r at this
  unfold Lib.closeSpans
  split
  · rw [List.length_append]; simp at this ⊢; omega
  · simp at this; omega
theorem words_size (s : ByteArray) : ∀ w ∈ wordsM s, w.size ≤ s.size := fun w hw => by
  unfold wordsM Lib.goFieldsP at hw
  obtain ⟨x, _, rfl⟩ := List.mem_map.1 hw
  rw [ByteArray.size_extract]
  omega
theorem outsM_sub {ws outs : List ByteArray} {dep : ByteArray} (h : outsM ws = some (outs, dep)) : outs.length ≤ ws.length := by
  have key : ∀ {ws outs : List ByteArray} {d dep : ByteArray}, chkO ws d = some (outs, dep) → outs = ws := fun {ws outs d dep} h => by
    unfold chkO at h
    split at h
    · cases h; rfl
    · cases h
  unfold outsM at h
  split at h
  · split at h
    · rw [key h, List.length_take]; omega
    · cases h
  · rw [key h]; exact Nat.le_refl _
theorem shapeM_sub {cmd : ByteArray} {x : Shp} (h : shapeM cmd = some x) : x.args.length ≤ (wordsM cmd).length ∧ (∀ w ∈ x.args, w ∈ wordsM cmd) ∧ x.outs.length ≤ (wordsM cmd).length := by
  have key : ∀ {o : Bool} {ws : List ByteArray}, shapeW o ws = some x → x.args.length ≤ ws.length ∧ (∀ w ∈ x.args, w ∈ ws) ∧ x.outs.length ≤ ws.length := fun {o ws} h => by
    unfold shapeW at h
    split at h
    · split at h
      · split at h
        · rename_i ho
          split at h
          · cases h
            have := outsM_sub ho
            refine ⟨?_, fun w hw => List.mem_of_mem_take (List.mem_of_mem_drop hw), ?_⟩
            · simp only [List.length_drop, List.length_take]; omega
            · rw [List.length_drop] at this; exact Nat.le_trans this (by omega)
          · cases h
        · cases h
      · cases h
    · cases h
  unfold shapeM at h
  split at h
  · obtain ⟨h1, h2, h3⟩ := key h
    rw [List.length_drop] at h1 h3
    exact ⟨by omega, fun w hw => List.mem_of_mem_drop (h2 w hw), by omega⟩
  · exact key h
theorem join_len (c : UInt8) (B : Nat) : ∀ l : List (List UInt8), (∀ x ∈ l, x.length ≤ B) → (Lib.join l [c]).length ≤ l.length * (B + 1)
  | [], _ => by simp [Lib.join_nil]
  | x :: r, h => by
    have h1 := lenP_join (x :: r) c
    have h2 : lenP (x :: r) ≤ (x :: r).length * (B + 1) := by
      have : ∀ l : List (List UInt8), (∀ x ∈ l, x.length ≤ B) → lenP l ≤ l.length * (B + 1) := by
        intro l
        induction l with
        | nil => intro _; simp [lenP]
        | cons y l ih =>
          intro hl
          have a := hl y (by simp)
          have b := ih fun z hz => hl z (by simp [hz])
          unfold lenP at b ⊢
          rw [List.map_cons, List.sum_cons, List.length_cons, Nat.succ_mul]
          omega
      exact this _ h
    exact Nat.le_trans h1 h2
theorem cmdOk (cmd : ByteArray) (h : cmd.size ≤ 20000) : CmdOk cmd := by
  have h1 := words_len cmd
  refine ⟨by omega, by omega, fun w hw => by have := words_size cmd w hw; omega, fun x hx => ?_⟩
  obtain ⟨a1, a2, a3⟩ := shapeM_sub hx
  refine ⟨by omega, ?_, by omega⟩
  have := join_len 32 20000 (x.args.map (·.data.toList)) (fun y hy => by
    obtain ⟨w, hw, rfl⟩ := List.mem_map.1 hy
    have := words_size cmd w (a2 w hw)
    have hs : w.data.toList.length = w.size := by simp
    omega)
  rw [List.length_map] at this
  have : x.args.length * (20000 + 1) ≤ 20001 * 20001 := Nat.mul_le_mul (by omega) (by omega)
  omega
end Go.Ab.S16
set_option linter.unusedSimpArgs false
set_option linter.unusedVariables false
set_option linter.constructorNameAsVariable false
namespace Go.Ab
open Go
variable {P : Program}
mutual
def nn : D → D
  | .v (.slice none 0 0) => .slc []
  | .agg cs => .agg (nns cs)
  | .slc xs => .slc (nns xs)
  | .tup xs => .tup (nns xs)
  | d => d
def nns : List D → List D
  | [] => []
  | d :: r => nn d :: nns r
end
theorem nns_map : ∀ ds, nns ds = ds.map nn
  | [] => rfl
  | d :: ds => by rw [nns, nns_map ds]; rfl
theorem nn_v (x : Value) : nn (.v x) = .v x ∨ (x = .slice none 0 0 ∧ nn (.v x) = .slc []) := by
  by_cases h : x = .slice none 0 0
  · subst h; exact .inr ⟨rfl, by unfold nn; rfl⟩
  · refine .inl ?_
    unfold nn
    split <;> first | rfl | simp_all
theorem nn_cells (d : D) : (nn d).cells = d.cells.map nn := by
  cases d with
  | agg cs => simp [nn, D.cells, nns_map]
  | slc xs => simp [nn, D.cells]
  | tup xs => simp [nn, D.cells]
  | v x =>
    rcases nn_v x with h | ⟨_, h⟩ <;> simp [h, D.cells]
  | _ => simp [nn, D.cells]
theorem flat_nns : ∀ ds : List D, flat (ds.map nn) = (flat ds).map nn
  | [] => rfl
  | d :: ds => by simp [nn_cells, flat_nns ds]
mutual
theorem rep_nn {w : World} {S : Nat → Prop} : ∀ {d : D} {v : Value}, Rep w S d v → Rep w S (nn d) v
  | _, _, .any => .any
  | _, _, .v (x := x) h => by
    rcases nn_v x with h1 | ⟨rfl, h1⟩
    · rw [h1]; exact .v h
    · rw [h1]; exact .slc0
  | _, _, .ptr => .ptr
  | _, _, .elt h1 h2 h3 => .elt h1 h2 h3
  | _, _, .slc0 => .slc0
  | _, _, .slc (xs := xs) (cap := cap) (b := b) (off := off) h1 h2 h3 h4 h5 => by
    have hl : (nns xs).length = xs.length := by rw [nns_map, List.length_map]
    have hr := repL_nn h2
    rw [nns_map, ← flat_nns, ← nns_map] at hr
    have key : Rep w S (.slc (nns xs)) (.slice (some ⟨b, off, none⟩) (nns xs).length cap) := Rep.slc h1 hr h3 (fun y hy => by
      rw [nns_map] at hy
      obtain ⟨z, hz, rfl⟩ := List.mem_map.1 hy
      rw [nn_cells, List.length_map]; exact h4 z hz) (by rw [hl]; exact h5)
    rw [hl] at key
    exact key
  | _, _, .own0 => .own0
  | _, _, .own hh hn hc hm => .own hh hn hc hm
  | _, _, .win0 => .win0
  | _, _, .win hh hn hc hm => .win hh hn hc hm
  | _, _, .agg hr => .agg (repL_nn hr)
  | _, _, .tup hr => .tup (repL_nn hr)
  | _, _, .map => .map
  | _, _, .clo hf hc => .clo hf hc
  | _, _, .ifc h => .ifc h
theorem repL_nn {w : World} {S : Nat → Prop} : ∀ {ds : List D} {vs : List Value}, RepL w S ds vs → RepL w S (nns ds) vs
  | _, _, .nil => .nil
  | _, _, .cons h t => .cons (rep_nn h) (repL_nn t)
end
/-- A contract, called with nil slices where it speaks of empty rows. -/
theorem ACalls.nn {f : FuncId} {args args' : List D} {σ : Store} {R : AEnd → Store → Prop} (h : ACalls P f args' σ R) (he : nns args = args') : ACalls P f args σ R :=
  h.args_le fun w S vs hr => he ▸ repL_nn hr
end Go.Ab
set_option linter.unusedSimpArgs false
set_option linter.unusedVariables false
set_option linter.constructorNameAsVariable false
namespace Go.Ab.S16
open Go Go.Proofs Go.RowKit
theorem edgeOk (outs ins impl order : List ByteArray) (cmd dep : ByteArray) (h1 : outs.length ≤ 10) (h2 : ins.length ≤ 10) (h3 : impl.length ≤ 10) (h4 : order.length ≤ 10) (hc : cmd.size ≤ 20000) (hs : ∀ f ∈ outs ++ ins ++ impl ++ order, f.size < 2 ^ 40) : EdgeOk ⟨outs, ins, impl, order, cmd, dep⟩ :=
  ⟨⟨h1, h2, h3, h4⟩, cmdOk cmd hc, fun f hf => hs f (by simp [hf]), fun f hf => hs f (by
    have : f ∈ ins ++ impl ++ order := hf
    simp only [List.mem_append] at this ⊢
    rcases this with (h | h) | h
    · exact .inl (.inl (.inr h))
    · exact .inl (.inr h)
    · exact .inr h)⟩
theorem aw_ok : EvOk awM awL [] := by
  refine ⟨by decide, fun e he => ?_, by decide, by decide, fun f hf => ?_, by decide⟩
  · simp only [awM, List.mem_cons, List.not_mem_nil, or_false] at he
    rcases he with rfl | rfl
    · exact edgeOk _ _ _ _ _ _ (by decide) (by decide) (by decide) (by decide) (by decide) (by decide)
    · exact edgeOk _ _ _ _ _ _ (by decide) (by decide) (by decide) (by decide) (by decide) (by decide)
  · simp only [awL, List.mem_cons, List.not_mem_nil, or_false] at hf
    subst hf
    exact ⟨by decide, by decide⟩
theorem at4 {α : Type} (a b c d e : α) (l : List α) : (a :: b :: c :: d :: e :: l).toArray[4]? = some e := rfl
theorem at5 {α : Type} (a b c d e f : α) (l : List α) : (a :: b :: c :: d :: e :: f :: l).toArray[5]? = some f := rfl
theorem at6 {α : Type} (a b c d e f g : α) (l : List α) : (a :: b :: c :: d :: e :: f :: g :: l).toArray[6]? = some g := rfl
theorem at7 {α : Type} (a b c d e f g h : α) (l : List α) : (a :: b :: c :: d :: e :: f :: g :: h :: l).toArray[7]? = some h := rfl
theorem at8 {α : Type} (a b c d e f g h i : α) (l : List α) : (a :: b :: c :: d :: e :: f :: g :: h :: i :: l).toArray[8]? = some i := rfl
theorem at9 {α : Type} (a b c d e f g h i j : α) (l : List α) : (a :: b :: c :: d :: e :: f :: g :: h :: i :: j :: l).toArray[9]? = some j := rfl
theorem at10 {α : Type} (a b c d e f g h i j k : α) (l : List α) : (a :: b :: c :: d :: e :: f :: g :: h :: i :: j :: k :: l).toArray[10]? = some k := rfl
theorem awake_calls (σ : Store) : ACalls Tryz.prog 17 [] σ (fun e σ' => e = .ret (.v (.bool true)) ∧ σ' = σ) := by
  refine ACalls.still ?_ σ
  refine ACalls.forget (R := fun e _ => e = .ret (.v (.bool true))) ?_ fun e σ' h => ⟨[], SLe.nil _, h, rfl⟩
  have hev := fun σ => eval_calls awM awL [] aw_ok σ
  simp only [aw_eval, resF, resE] at hev
  refine ACalls.of_body Tryz.func17 rfl Tryz.ntmps17 (by simp) fun C hC => ?_
  refine Goes.seq ?_
  refine Goes.region [] fun K hK => ?_; simp (maxSteps := 4000000) only [go_sem, ↓reduceIte, reduceCtorEq, zqa, zqb, zqc, zqd, zqe, zqf, zqg, zqh, zqi, zqj, zqk, zql, zqm]
  refine hK _ _ ?_; clear hK K
  refine Goes.seq ?_
  refine Goes.regionM [] [4, 5, 7, 8, 10] fun K hK => ?_; simp (maxSteps := 4000000) only [go_sem, ↓reduceIte, reduceCtorEq, zqa, zqb, zqc, zqd, zqe, zqf, zqg, zqh, zqi, zqj, zqk, zql, zqm]
  refine ⟨by decide, by decide, by decide, by decide, ⟨by decide, by decide⟩, fun b1 => ?_⟩
  refine hK _ _ ?_; clear hK K
  refine Goes.seq ?_
  refine Goes.regionOpen [1] ?_
  refine Goes.op (at0 _ _) rfl nofun dstB_lit ?_
  simp only [go_sem, ↓reduceIte, reduceCtorEq, zqa, zqb, zqc, zqd, zqe, zqf, zqg, zqh, zqi, zqj, zqk, zql, zqm]
  refine Goes.opBytes (e8 := 5) (at1 _ _ _) rfl (at2 _ _ _ _) rfl rfl rfl rfl rfl dstB_lit dstB_lit (by kernel_rfl) (by kernel_rfl) ?_
  simp only [go_sem, ↓reduceIte, reduceCtorEq, zqa, zqb, zqc, zqd, zqe, zqf, zqg, zqh, zqi, zqj, zqk, zql, zqm]
  refine ⟨by decide, fun b hb => ?_⟩
  refine Goes.rebase [13, 15] ?_
  simp only [go_sem, ↓reduceIte, reduceCtorEq, zqa, zqb, zqc, zqd, zqe, zqf, zqg, zqh, zqi, zqj, zqk, zql, zqm]
  refine Goes.le (ELe.refl _) (σ' := cellsOf (some b) 1 [bD 120] ++ []) (sle_cons2 (SLe.nil _)) ?_
  refine pubSlot2 15 (o := some b) (xs := [bD 120]) rfl ⟨fun c hc => rfl, nofun⟩ (fun c hc => PubOK.nil c) (fun c hc p hp hk => ?_) ?_
  · simp only [List.mem_cons, List.not_mem_nil, or_false] at hp
    rcases hp with rfl | rfl
    · rfl
    · exact absurd rfl hk
  simp only [go_sem, ↓reduceIte, reduceCtorEq, zqa, zqb, zqc, zqd, zqe, zqf, zqg, zqh, zqi, zqj, zqk, zql, zqm]
  refine Goes.op (at3 _ _ _ _ _) rfl nofun dstB_lit ?_
  simp only [go_sem, ↓reduceIte, reduceCtorEq, zqa, zqb, zqc, zqd, zqe, zqf, zqg, zqh, zqi, zqj, zqk, zql, zqm]
  refine Goes.op (at4 _ _ _ _ _ _) rfl nofun dstB_lit ?_
  simp only [go_sem, ↓reduceIte, reduceCtorEq, zqa, zqb, zqc, zqd, zqe, zqf, zqg, zqh, zqi, zqj, zqk, zql, zqm]
  refine ⟨⟨by decide, by decide⟩, fun b2 => ?_⟩
  refine Goes.rebase [13, 17] ?_
  simp only [go_sem, ↓reduceIte, reduceCtorEq, zqa, zqb, zqc, zqd, zqe, zqf, zqg, zqh, zqi, zqj, zqk, zql, zqm]
  refine Goes.le (ELe.refl _) (σ' := cellsOf (some b2) 2 (awL.map XFile.d) ++ []) (sle_cons2 (SLe.nil _)) ?_
  refine pubSlot2 17 (o := some b2) (xs := awL.map XFile.d) rfl ⟨fun c hc => rfl, nofun⟩ (fun c hc => PubOK.nil c) (fun c hc p hp hk => ?_) ?_
  · simp only [List.mem_cons, List.not_mem_nil, or_false] at hp
    rcases hp with rfl | rfl
    · rfl
    · exact absurd rfl hk
  simp only [go_sem, ↓reduceIte, reduceCtorEq, zqa, zqb, zqc, zqd, zqe, zqf, zqg, zqh, zqi, zqj, zqk, zql, zqm]
  refine Goes.op (at5 _ _ _ _ _ _ _) rfl nofun dstB_lit ?_
  simp only [go_sem, ↓reduceIte, reduceCtorEq, zqa, zqb, zqc, zqd, zqe, zqf, zqg, zqh, zqi, zqj, zqk, zql, zqm]
  refine ⟨_, Tryz.call12, ((hev _).nn (by kernel_rfl)).mono ?_⟩
  rintro e σ1 ⟨rfl, rfl⟩
  simp only [go_sem, ↓reduceIte, reduceCtorEq, zqa, zqb, zqc, zqd, zqe, zqf, zqg, zqh, zqi, zqj, zqk, zql, zqm]
  refine Goes.op (at6 _ _ _ _ _ _ _ _) rfl nofun dstB_lit ?_
  simp only [go_sem, ↓reduceIte, reduceCtorEq, zqa, zqb, zqc, zqd, zqe, zqf, zqg, zqh, zqi, zqj, zqk, zql, zqm]
  refine Goes.op (at7 _ _ _ _ _ _ _ _ _) rfl nofun dstB_lit ?_
  simp only [go_sem, ↓reduceIte, reduceCtorEq, zqa, zqb, zqc, zqd, zqe, zqf, zqg, zqh, zqi, zqj, zqk, zql, zqm]
  refine Goes.op (at8 _ _ _ _ _ _ _ _ _ _) rfl nofun dstB_lit ?_
  simp only [go_sem, ↓reduceIte, reduceCtorEq, zqa, zqb, zqc, zqd, zqe, zqf, zqg, zqh, zqi, zqj, zqk, zql, zqm]
  refine Goes.op (at9 _ _ _ _ _ _ _ _ _ _ _) rfl nofun dstB_lit ?_
  simp only [go_sem, ↓reduceIte, reduceCtorEq, zqa, zqb, zqc, zqd, zqe, zqf, zqg, zqh, zqi, zqj, zqk, zql, zqm]
  refine Goes.op (at10 _ _ _ _ _ _ _ _ _ _ _ _) rfl nofun dstB_lit ?_
  simp only [go_sem, ↓reduceIte, reduceCtorEq, zqa, zqb, zqc, zqd, zqe, zqf, zqg, zqh, zqi, zqj, zqk, zql, zqm]
  refine Goes.regionEnd ?_
  refine Goes.seq ?_
  have ho : awOut.map XFile.d = [.agg [.v (.string ⟨#[98]⟩), .slc [bD 120]], .agg [.v (.string ⟨#[99]⟩), .slc [bD 120, bD 120]]] := rfl
  rw [ho]
  unfold eD
  have h00 : (((0 : Nat) : Int) == 0) = true := rfl
  have h22 : (((2 : Nat) : Int) == 2) = true := rfl
  have hdc : decide ((0 : Int) ≤ ((UInt8.toNat 120 : Nat) : Int) ∧ ((UInt8.toNat 120 : Nat) : Int) < 256) = true := by decide
  have hb1 : bytesOf [D.v (Value.int .u8 ((UInt8.toNat 120 : Nat) : Int))] = ⟨#[120]⟩ := rfl
  have hb2 : bytesOf [D.v (Value.int .u8 ((UInt8.toNat 120 : Nat) : Int)), D.v (Value.int .u8 ((UInt8.toNat 120 : Nat) : Int))] = ⟨#[120, 120]⟩ := rfl
  refine Goes.region [2, 3] fun K hK => ?_; simp (maxSteps := 4000000) only [go_sem, ↓reduceIte, reduceCtorEq, zqa, zqb, zqc, zqd, zqe, zqf, zqg, zqh, zqi, zqj, zqk, zql, zqm, h00, h22, hdc, hb1, hb2, BEq.rfl, Bool.and_self]
  refine ⟨by decide, by decide, by decide, by decide, ?_⟩
  refine hK _ _ ?_; clear hK K
  refine Goes.ret hC Tryz.func17 (by simp [go_sem]) ?_
  simp only [go_sem, ↓reduceIte, reduceCtorEq, zqa, zqb, zqc, zqd, zqe, zqf, zqg, zqh, zqi, zqj, zqk, zql, zqm]
end Go.Ab.S16
set_option linter.unusedSimpArgs false
set_option linter.unusedVariables false
set_option linter.constructorNameAsVariable false
namespace Go.Ab.S16
open Go Go.Proofs
theorem list_of {α : Type} {f : α → D} : ∀ {xs : List D}, (∀ x ∈ xs, ∃ a, x = f a) → ∃ l : List α, xs = l.map f
  | [], _ => ⟨[], rfl⟩
  | x :: xs, h => by
    obtain ⟨a, ha⟩ := h x (by simp)
    obtain ⟨l, hl⟩ := list_of (f := f) (xs := xs) fun y hy => h y (by simp [hy])
    exact ⟨a :: l, by rw [ha, hl]; rfl⟩
theorem wt_bytes {ds : List D} (h : WT (.slice (.int .u8)) ds) : ∃ l : List UInt8, ds = [.slc (l.map bD)] := by
  unfold WT at h
  obtain ⟨xs, rfl, _, h⟩ := h
  obtain ⟨l, rfl⟩ := list_of (f := bD) (xs := xs) fun x hx => by
    obtain ⟨h1, _, h3⟩ := h x hx
    rw [h1 rfl] at h3
    unfold WT at h3
    obtain ⟨n, hn, hwf⟩ := h3
    cases hn
    have : 0 ≤ n ∧ n < 256 := by
      simp [Lit.wf, IntKind.min, IntKind.max, IntKind.signed, IntKind.bits] at hwf
      omega
    exact ⟨UInt8.ofNat n.toNat, by unfold bD; congr 2; simp; omega⟩
  exact ⟨l, rfl⟩
end Go.Ab.S16
set_option linter.unusedSimpArgs false
set_option linter.unusedVariables false
set_option linter.constructorNameAsVariable false
namespace Go.Ab.S16
open Go Go.Proofs Go.RowKit
theorem nns_bD (l : List UInt8) : nns (l.map bD) = l.map bD := by
  rw [nns_map, List.map_map]; rfl
theorem wrap_small (a : Nat) (h : a < 2 ^ 62) : IntKind.i64.wrap (a : Int) = a := by
  cases a with
  | zero => rfl
  | succ i => exact wrap_succ i (by omega)
end Go.Ab.S16
namespace Go.Ab.S16
open Go Go.Proofs
theorem wt_u8 {d : D} (h : WTv (.int .u8) d) : ∃ n : Nat, n < 256 ∧ d = .v (.int .u8 (n : Int)) := by
  have h0 := h.1 rfl
  unfold WT at h0
  obtain ⟨n, hn, hwf⟩ := h0
  cases hn
  have : 0 ≤ n ∧ n < 256 := by
    simp [Lit.wf, IntKind.min, IntKind.max, IntKind.signed, IntKind.bits] at hwf
    omega
  exact ⟨n.toNat, by omega, by congr 2; omega⟩
end Go.Ab.S16
set_option linter.unusedSimpArgs false
set_option linter.unusedVariables false
set_option linter.constructorNameAsVariable false
namespace Go.Ab.S16
open Go Go.Proofs Go.RowKit
/-- As cookR, whatever is made is short enough. -/
def cookU (cmd : ByteArray) (decl : List ByteArray) (files : List XFile) : Option XDish :=
  match shapeM cmd with
  | none => none
  | some x => match runV x.args decl files (bL x.verb) with
    | none => none
    | some (b, found) => some ⟨x.outs.map fun n => ⟨n, b⟩, x.once, x.dep, if (!(x.dep.toList == (⟨#[]⟩ : ByteArray).toList)) = true then lB (printT (x.outs.getD 0 ⟨#[]⟩) found ++ [10]) else ⟨#[]⟩⟩
def evalStepU (g : XGr) (l : List XFile) (n : Nat) (made : List XFile) : Nat ⊕ List XFile :=
  if (edgeOf g n).needs.any (missB g l) = true then .inl 6
  else match cookU (edgeOf g n).cmd ((edgeOf g n).ins ++ (edgeOf g n).impl) (filesFor g l made n) with
    | none => .inl 13
    | some x => if ((x.dep.toList == (edgeOf g n).dep.toList) && fitB (edgeOf g n).outs x.outs) = true then .inr (made ++ x.outs) else .inl 13
def evalGoU (g : XGr) (l : List XFile) : List Nat → List XFile → Nat ⊕ List XFile
  | [], made => .inr made
  | n :: r, made => match evalStepU g l n made with
    | .inl c => .inl c
    | .inr made' => evalGoU g l r made'
def evalGU (g : XGr) (l : List XFile) (ts : List ByteArray) : Nat ⊕ List XFile :=
  if wrongB g = true then .inl 5 else match planL g (targetsOr g ts) with
    | .inl c => .inl c
    | .inr plan => if (targetsOr g ts).any (missB g l) = true then .inl 6 else evalGoU g l plan []
def evalMU (m : XMan) (l : List XFile) (ts : List ByteArray) : Nat ⊕ List XFile := match newG m with
  | .inl c => .inl c
  | .inr g => evalGU g l ts
def nmC : Nat → ByteArray
  | 0 => lB [115]
  | i + 1 => lB [102, UInt8.ofNat (97 + i)]
def chE (i : Nat) : XEdge := ⟨[nmC (i + 1)], [nmC i], [], [], lB ([114, 101, 118, 32] ++ bL (nmC i) ++ [32, 62, 32] ++ bL (nmC (i + 1))), lB []⟩
def chL : Nat → List XEdge
  | 0 => []
  | n + 1 => chE n :: chL n
def revN : Nat → List UInt8 → List UInt8
  | 0, b => b
  | n + 1, b => (revN n b).reverse
def chOut (b : List UInt8) : Nat → List XFile
  | 0 => []
  | n + 1 => chOut b n ++ [⟨nmC (n + 1), revN (n + 1) b⟩]
theorem cookU_of {cmd : ByteArray} {decl : List ByteArray} {files : List XFile} {x : XDish} (h : cookU cmd decl files = some x) (hs : ∀ f ∈ x.outs, f.b.length ≤ 65536) : cookM cmd decl files = some x := by
  unfold cookU at h
  unfold cookM cookR
  cases hsh : shapeM cmd with
  | none => rw [hsh] at h; cases h
  | some s =>
    rw [hsh] at h
    simp only at h ⊢
    cases hr : runV s.args decl files (bL s.verb) with
    | none => rw [hr] at h; cases h
    | some p =>
      obtain ⟨b, found⟩ := p
      rw [hr] at h
      simp only [Option.some.injEq] at h ⊢
      have ho := (shapeM_spec hsh).2.2.1
      subst h
      have hb : b.length ≤ 65536 := by
        match hso : s.outs, ho with
        | n :: r, _ => exact hs ⟨n, b⟩ (by show _ ∈ s.outs.map _; rw [hso]; simp)
      rw [if_pos hb]
theorem evalStep_of {g : XGr} {l : List XFile} {n : Nat} {made out : List XFile} (h : evalStepU g l n made = .inr out) : ∃ xs, out = made ++ xs ∧ ((∀ f ∈ xs, f.b.length ≤ 65536) → evalStep g l n made = .inr out) := by
  unfold evalStepU at h
  unfold evalStep
  split at h
  · cases h
  · rename_i hm
    cases hc : cookU (edgeOf g n).cmd ((edgeOf g n).ins ++ (edgeOf g n).impl) (filesFor g l made n) with
    | none => rw [hc] at h; cases h
    | some x =>
      rw [hc] at h
      simp only at h
      split at h
      · rename_i hf
        simp only [Sum.inr.injEq] at h
        subst h
        refine ⟨x.outs, rfl, fun hs => ?_⟩
        rw [if_neg hm, cookU_of hc hs]
        simp only
        rw [if_pos hf]
      · cases h
theorem evalGo_of {g : XGr} {l : List XFile} : ∀ (r : List Nat) (made out : List XFile), evalGoU g l r made = .inr out → (∃ xs, out = made ++ xs) ∧ ((∀ f ∈ out, f.b.length ≤ 65536) → evalGo g l r made = .inr out)
  | [], made, out, h => by
    simp only [evalGoU, Sum.inr.injEq] at h
    subst h
    exact ⟨⟨[], by simp⟩, fun _ => rfl⟩
  | n :: r, made, out, h => by
    rw [evalGoU] at h
    cases hs : evalStepU g l n made with
    | inl c => rw [hs] at h; cases h
    | inr made' =>
      rw [hs] at h
      obtain ⟨⟨xs, hx⟩, h2⟩ := evalGo_of r made' out h
      obtain ⟨ys, hy, h3⟩ := evalStep_of hs
      refine ⟨⟨ys ++ xs, by rw [hx, hy, List.append_assoc]⟩, fun hl => ?_⟩
      rw [evalGo, h3 (fun f hf => hl f (by rw [hx, hy]; simp [hf]))]
      exact h2 hl
theorem evalM_of {m : XMan} {l out : List XFile} {ts : List ByteArray} (h : evalMU m l ts = .inr out) (hl : ∀ f ∈ out, f.b.length ≤ 65536) : evalM m l ts = .inr out := by
  unfold evalMU at h
  unfold evalM
  cases hg : newG m with
  | inl c => rw [hg] at h; cases h
  | inr g =>
    rw [hg] at h
    simp only at h ⊢
    unfold evalGU at h
    unfold evalG
    split at h
    · cases h
    · rename_i hw
      rw [if_neg hw]
      cases hp : planL g (targetsOr g ts) with
      | inl c => rw [hp] at h; cases h
      | inr plan =>
        rw [hp] at h
        simp only at h ⊢
        split at h
        · cases h
        · rename_i hm
          rw [if_neg hm]
          exact (evalGo_of plan [] out h).2 hl
theorem revN_len (b : List UInt8) : ∀ n, (revN n b).length = b.length
  | 0 => rfl
  | n + 1 => by rw [revN, List.length_reverse, revN_len b n]
theorem revN_eq (b : List UInt8) : ∀ n, revN n b = if n % 2 = 1 then b.reverse else b
  | 0 => rfl
  | n + 1 => by
    rw [revN, revN_eq b n]
    rcases Nat.mod_two_eq_zero_or_one n with h | h
    · rw [if_neg (by omega), if_pos (by omega)]
    · rw [if_pos h, if_neg (by omega), List.reverse_reverse]
theorem chOut_len (b : List UInt8) : ∀ n, (chOut b n).length = n
  | 0 => rfl
  | n + 1 => by rw [chOut, List.length_append, chOut_len b n]; rfl
theorem chOut_mem (b : List UInt8) : ∀ n, ∀ f ∈ chOut b n, f.b.length = b.length
  | 0, f, hf => by cases hf
  | n + 1, f, hf => by
    rw [chOut] at hf
    rcases List.mem_append.1 hf with hf | hf
    · exact chOut_mem b n f hf
    · rw [List.mem_singleton.1 hf]
      exact revN_len b (n + 1)
theorem chOut_last (b : List UInt8) (n : Nat) : ((chOut b (n + 1)).map XFile.d).getD n .any = XFile.d ⟨nmC (n + 1), revN (n + 1) b⟩ := by
  have hl := chOut_len b n
  rw [chOut, List.map_append, List.getD_eq_getElem?_getD, List.getElem?_append_right (by rw [List.length_map, hl]; exact Nat.le_refl _)]
  rw [List.length_map, hl, Nat.sub_self]
  rfl
theorem chain_facts (b : List UInt8) : ∀ n, 1 ≤ n → n ≤ 20 → evalMU ⟨chL n, []⟩ [⟨lB [115], b⟩] [nmC n] = .inr (chOut b n)
  | 0, h, _ => by omega
  | 1, _, _ => by kernel_rfl
  | 2, _, _ => by kernel_rfl
  | 3, _, _ => by kernel_rfl
  | 4, _, _ => by kernel_rfl
  | 5, _, _ => by kernel_rfl
  | 6, _, _ => by kernel_rfl
  | 7, _, _ => by kernel_rfl
  | 8, _, _ => by kernel_rfl
  | 9, _, _ => by kernel_rfl
  | 10, _, _ => by kernel_rfl
  | 11, _, _ => by kernel_rfl
  | 12, _, _ => by kernel_rfl
  | 13, _, _ => by kernel_rfl
  | 14, _, _ => by kernel_rfl
  | 15, _, _ => by kernel_rfl
  | 16, _, _ => by kernel_rfl
  | 17, _, _ => by kernel_rfl
  | 18, _, _ => by kernel_rfl
  | 19, _, _ => by kernel_rfl
  | 20, _, _ => by kernel_rfl
  | n + 21, _, h => by omega
theorem chain_eval (b : List UInt8) (hb : b.length ≤ 200) (n : Nat) (h1 : 1 ≤ n) (h2 : n ≤ 20) : evalM ⟨chL n, []⟩ [⟨lB [115], b⟩] [nmC n] = .inr (chOut b n) :=
  evalM_of (chain_facts b n h1 h2) fun f hf => by rw [chOut_mem b n f hf]; omega
end Go.Ab.S16
set_option linter.unusedSimpArgs false
set_option linter.unusedVariables false
set_option linter.constructorNameAsVariable false
namespace Go.Ab.S16
open Go Go.Proofs Go.RowKit
/-- An edge, as the law makes it. -/
def chD (i : Nat) : D := .agg [.slc [sD (nmC (i + 1))], .slc [sD (nmC i)], .v (.slice none 0 0), .v (.slice none 0 0), .v (.string (chE i).cmd), .v (.string ⟨#[]⟩)]
def chDL : Nat → List D
  | 0 => []
  | n + 1 => chD n :: chDL n
theorem chDL_len : ∀ n, (chDL n).length = n
  | 0 => rfl
  | n + 1 => by rw [chDL, List.length_cons, chDL_len n]
theorem chDL_plain : ∀ n, ∀ y ∈ chDL n, y.cells.length = 6 ∧ y.plain = true
  | 0, y, h => by cases h
  | n + 1, y, h => by
    rcases List.mem_cons.1 h with rfl | h
    · exact ⟨rfl, rfl⟩
    · exact chDL_plain n y h
theorem nns_chDL : ∀ n, nns (chDL n) = (chL n).map XEdge.d
  | 0 => rfl
  | n + 1 => by
    rw [chDL, nns, nns_chDL n]
    rfl
theorem chL_edge {n : Nat} : ∀ e ∈ chL n, ∃ i, i < n ∧ e = chE i := fun e he => by
  induction n with
  | zero => cases he
  | succ n ih =>
    rcases List.mem_cons.1 he with rfl | he
    · exact ⟨n, by omega, rfl⟩
    · obtain ⟨i, hi, h⟩ := ih he
      exact ⟨i, by omega, h⟩
theorem chL_len : ∀ n, (chL n).length = n
  | 0 => rfl
  | n + 1 => by rw [chL, List.length_cons, chL_len n]
theorem nmC_size : ∀ i, (nmC i).size ≤ 2
  | 0 => by decide
  | i + 1 => Nat.le_refl _
theorem chE_cmd (i : Nat) : (chE i).cmd.size ≤ 11 := by
  have h1 := nmC_size i
  have h2 := nmC_size (i + 1)
  show ([114, 101, 118, 32] ++ bL (nmC i) ++ [32, 62, 32] ++ bL (nmC (i + 1))).length ≤ 11
  simp only [List.length_append]
  show 4 + (nmC i).size + 3 + (nmC (i + 1)).size ≤ 11
  omega
theorem chain_ok (b : List UInt8) (hb : b.length ≤ 200) (n : Nat) (h2 : n ≤ 20) : EvOk ⟨chL n, []⟩ [⟨lB [115], b⟩] [nmC n] := by
  refine ⟨by show (chL n).length ≤ 60; rw [chL_len]; omega, fun e he => ?_, by show 0 < _; omega, by show 1 ≤ 400; omega, fun f hf => ?_, by show 1 < _; omega⟩
  · obtain ⟨i, hi, rfl⟩ := chL_edge e he
    have h1 := nmC_size i
    have h2 := nmC_size (i + 1)
    have h3 := chE_cmd i
    refine edgeOk _ _ _ _ _ _ (by show 1 ≤ 10; omega) (by show 1 ≤ 10; omega) (by show 0 ≤ 10; omega) (by show 0 ≤ 10; omega) (by show (chE i).cmd.size ≤ _; omega) fun f hf => ?_
    simp only [List.append_nil, List.cons_append, List.nil_append, List.mem_cons, List.not_mem_nil, or_false] at hf
    rcases hf with rfl | rfl <;> omega
  · rw [List.mem_singleton.1 hf]
    exact ⟨by show b.length < _; omega, by show 1 < _; omega⟩
theorem pub_bytes (c s : Nat) (xs : List D) (l : List UInt8) : D.pub c s xs (.slc (l.map bD)) = .slc (l.map bD) := rfl
theorem schain_true (b : List UInt8) (a : Nat) (ha : a < 256) (σ : Store) :
    ACalls Tryz.prog 9 [.slc (b.map bD), .v (.int .u8 a)] σ (fun e σ' => e = .ret (.v (.bool true)) ∧ σ' = σ) := by
  refine ACalls.still ?_ σ
  refine ACalls.forget (R := fun e _ => e = .ret (.v (.bool true))) ?_ fun e σ' h => ⟨[], SLe.nil _, h, rfl⟩
  have hbl : (b.map bD).length = b.length := List.length_map ..
  have hwa : IntKind.i64.wrap (a : Int) = a := wrap_small a (by omega)
  have hra : ∀ xo yo, aBin Tryz.prog .rem 3 xo yo (.v (.int .i64 a)) (.v (.int .i64 20)) = .val True (.v (.int .i64 ((a % 20 : Nat) : Int))) := fun xo yo => by
    rw [bin_rem _ _ _ _ .i64 (a : Int) 20 (by omega), Int.tmod_eq_emod_of_nonneg (by omega)]
    rfl
  have hw1 : IntKind.i64.wrap (((a % 20 : Nat) : Int) + 1) = ((a % 20 + 1 : Nat) : Int) := wrap_succ _ (by omega)
  refine ACalls.of_body Tryz.func9 rfl Tryz.ntmps9 (by simp) fun C hC => ?_
  refine Goes.seq ?_
  refine Goes.region [0, 1] fun K hK => ?_; simp (maxSteps := 4000000) only [go_sem, ↓reduceIte, reduceCtorEq, zqa, zqb, zqc, zqd, zqe, zqf, zqg, zqh, zqi, zqj, zqk, zql, zqm]
  refine hK _ _ ?_; clear hK K
  refine Goes.seq ?_
  refine Goes.seq ?_
  refine Goes.region [0, 1] fun K hK => ?_; simp (maxSteps := 4000000) only [go_sem, ↓reduceIte, reduceCtorEq, zqa, zqb, zqc, zqd, zqe, zqf, zqg, zqh, zqi, zqj, zqk, zql, zqm, hbl]
  refine hK _ _ ?_; clear hK K
  refine Goes.cond rfl (fun h16 => ?_) (fun h16 => ?_)
  · refine Goes.seq ?_
    refine Goes.region [] fun K hK => ?_; simp (maxSteps := 4000000) only [go_sem, ↓reduceIte, reduceCtorEq, zqa, zqb, zqc, zqd, zqe, zqf, zqg, zqh, zqi, zqj, zqk, zql, zqm]
    refine hK _ _ ?_; clear hK K
    refine Goes.ret hC Tryz.func9 (by simp [go_sem]) ?_
    simp only [go_sem, ↓reduceIte, reduceCtorEq, zqa, zqb, zqc, zqd, zqe, zqf, zqg, zqh, zqi, zqj, zqk, zql, zqm]
  · have hb : b.length ≤ 200 := by
      have h : (b.length : Int) ≤ 200 := by simpa using h16
      omega
    refine Goes.skip ?_
    refine Goes.seq ?_
    refine Goes.region [0, 1] fun K hK => ?_; simp (maxSteps := 4000000) only [go_sem, ↓reduceIte, reduceCtorEq, zqa, zqb, zqc, zqd, zqe, zqf, zqg, zqh, zqi, zqj, zqk, zql, zqm, hwa, hra, hw1]
    refine hK _ _ ?_; clear hK K
    have hn1 : 1 ≤ a % 20 + 1 := by omega
    have hn2 : a % 20 + 1 ≤ 20 := by omega
    generalize a % 20 + 1 = n at hn1 hn2 ⊢
    refine Goes.seq ?_
    refine Goes.region [0, 5] fun K hK => ?_; simp (maxSteps := 4000000) only [go_sem, ↓reduceIte, reduceCtorEq, zqa, zqb, zqc, zqd, zqe, zqf, zqg, zqh, zqi, zqj, zqk, zql, zqm]
    intro bm
    refine hK _ _ ?_; clear hK K
    refine Goes.seq ?_
    refine Goes.region [0, 5, 6] fun K hK => ?_; simp (maxSteps := 4000000) only [go_sem, ↓reduceIte, reduceCtorEq, zqa, zqb, zqc, zqd, zqe, zqf, zqg, zqh, zqi, zqj, zqk, zql, zqm]
    refine hK _ _ ?_; clear hK K
    refine Goes.seq ?_
    refine Goes.seq ?_
    refine Goes.region [0, 5, 6, 7] fun K hK => ?_; simp (maxSteps := 4000000) only [go_sem, ↓reduceIte, reduceCtorEq, zqa, zqb, zqc, zqd, zqe, zqf, zqg, zqh, zqi, zqj, zqk, zql, zqm]
    refine hK _ _ ?_; clear hK K
    refine Goes.block ?_
    refine Goes.row_le (ys := [.agg [.slc [], .v (.slice none 0 0)]]) (fun w S vs h => by
      obtain ⟨v, vs, rfl, h1, h2⟩ := RepL.cons_inv (show RepL w S (.v (.slice none 0 0) :: [.v (.slice none 0 0)]) vs from h)
      exact .cons (DLe.nil_slc w S v h1) h2) (by simp [D.cells]) ?_
    refine Goes.rebase [0, 5, 6, 7, 8] ?_
    simp only [go_sem, ↓reduceIte, reduceCtorEq, zqa, zqb, zqc, zqd, zqe, zqf, zqg, zqh, zqi, zqj, zqk, zql, zqm]
    refine Goes.while (fun (i : Nat) env' σ'' => (i ≤ n) ∧ env' = [(0, .slc (b.map bD)), (5, .v (.int .i64 (n : Int))), (6, .ptr bm 2 0 0), (7, .v (.string (nmC i))), (8, .v (.int .i64 (i : Int)))] ∧ σ'' = [(bm, AObj.arr 2 [.agg [.slc (chDL i), .v (.slice none 0 0)]])]) (fun (i : Nat) => n - i) 0 ⟨by omega, rfl, rfl⟩ ?_
    rintro i env' σ'' ⟨hi, rfl, rfl⟩ ih
    have ih1 := ih
    refine Goes.seq ?_
    refine Goes.seq ?_
    refine Goes.region [0, 5, 6, 7, 8] fun K hK => ?_; simp (maxSteps := 4000000) only [go_sem, ↓reduceIte, reduceCtorEq, zqa, zqb, zqc, zqd, zqe, zqf, zqg, zqh, zqi, zqj, zqk, zql, zqm]
    refine hK _ _ ?_; clear hK K
    refine Goes.cond rfl (fun h23 => ?_) (fun h23 => ?_)
    · have hlt : i < n := Int.ofNat_lt.1 (by simpa using h23)
      have h97 : IntKind.i64.wrap (97 + (i : Int)) = ((97 + i : Nat) : Int) := wrap_small (97 + i) (by omega)
      have hu8 : IntKind.u8.wrap ((97 + i : Nat) : Int) = ((97 + i : Nat) : Int) := by
        rw [IntKind.wrap_u8]; omega
      have hcn : ((97 + i : Nat) : Int) = ((UInt8.ofNat (97 + i)).toNat : Int) := by
        rw [UInt8.toNat_ofNat', Nat.mod_eq_of_lt (by omega)]
      have hbo : bytesOf [D.v (.int .u8 ((97 + i : Nat) : Int))] = lB [UInt8.ofNat (97 + i)] := by
        rw [hcn]
        exact bytesOf_bD [UInt8.ofNat (97 + i)]
      have hdc : decide ((0 : Int) ≤ ((97 + i : Nat) : Int) ∧ ((97 + i : Nat) : Int) < 256) = true := decide_eq_true (by omega)
      have hf : ∀ xo yo, aBin Tryz.prog .add 9 xo yo (.v (.string ⟨#[102]⟩)) (.v (.string (lB [UInt8.ofNat (97 + i)]))) = .val True (.v (.string (nmC (i + 1)))) := fun xo yo => sadd2 xo yo ⟨#[102]⟩ (lB [UInt8.ofNat (97 + i)]) (by show 1 + 1 < _; omega)
      have hz1 := nmC_size i
      have hz2 := nmC_size (i + 1)
      have hs1 : ∀ xo yo, aBin Tryz.prog .add 9 xo yo (.v (.string ⟨#[114, 101, 118, 32]⟩)) (.v (.string (nmC i))) = .val True (.v (.string (lB ([114, 101, 118, 32] ++ bL (nmC i))))) := fun xo yo => sadd2 xo yo ⟨#[114, 101, 118, 32]⟩ (nmC i) (by show 4 + (nmC i).size < _; omega)
      have hs2 : ∀ xo yo, aBin Tryz.prog .add 9 xo yo (.v (.string (lB ([114, 101, 118, 32] ++ bL (nmC i))))) (.v (.string ⟨#[32, 62, 32]⟩)) = .val True (.v (.string (lB ([114, 101, 118, 32] ++ bL (nmC i) ++ [32, 62, 32])))) := fun xo yo => by
        have := sadd2 xo yo (lB ([114, 101, 118, 32] ++ bL (nmC i))) ⟨#[32, 62, 32]⟩ (by rw [bL_lB, List.length_append]; show 4 + (nmC i).size + 3 < _; omega)
        rw [bL_lB] at this
        exact this
      have hs3 : ∀ xo yo, aBin Tryz.prog .add 9 xo yo (.v (.string (lB ([114, 101, 118, 32] ++ bL (nmC i) ++ [32, 62, 32])))) (.v (.string (nmC (i + 1)))) = .val True (.v (.string (chE i).cmd)) := fun xo yo => by
        have := sadd2 xo yo (lB ([114, 101, 118, 32] ++ bL (nmC i) ++ [32, 62, 32])) (nmC (i + 1)) (by rw [bL_lB, List.length_append, List.length_append]; show 4 + (nmC i).size + 3 + (nmC (i + 1)).size < _; omega)
        rw [bL_lB] at this
        exact this
      obtain ⟨q1, hq1⟩ : ∃ q, q = lB ([114, 101, 118, 32] ++ bL (nmC i)) := ⟨_, rfl⟩
      obtain ⟨q2, hq2⟩ : ∃ q, q = lB ([114, 101, 118, 32] ++ bL (nmC i) ++ [32, 62, 32]) := ⟨_, rfl⟩
      obtain ⟨q3, hq3⟩ : ∃ q, q = (chE i).cmd := ⟨_, rfl⟩
      rw [← hq1] at hs1 hs2
      rw [← hq2] at hs2 hs3
      rw [← hq3] at hs3
      have hcl := chDL_len i
      refine Goes.skip ?_
      refine Goes.seq ?_
      refine Goes.block ?_
      refine Goes.seq ?_
      refine Goes.regionM [0, 5, 6, 7, 8] [29] fun K hK => ?_; simp (maxSteps := 4000000) only [go_sem, ↓reduceIte, reduceCtorEq, zqa, zqb, zqc, zqd, zqe, zqf, zqg, zqh, zqi, zqj, zqk, zql, zqm, h97, hu8, hbo, hdc, hf]
      refine ⟨by decide, ?_⟩
      refine hK _ _ ?_; clear hK K
      refine Goes.seq ?_
      refine Goes.regionM [0, 5, 6, 7, 8, 9] [33, 35] fun K hK => ?_; simp (maxSteps := 4000000) only [go_sem, ↓reduceIte, reduceCtorEq, zqa, zqb, zqc, zqd, zqe, zqf, zqg, zqh, zqi, zqj, zqk, zql, zqm, hs1, hs2, hs3, hcl]
      refine ⟨by decide, by decide, ⟨by decide, by decide⟩, fun be hbe => ?_⟩
      have hne : bm ≠ be := fun e => by subst e; rw [sget_self] at hbe; cases hbe
      simp only [go_sem, ↓reduceIte, reduceCtorEq, zqa, zqb, zqc, zqd, zqe, zqf, zqg, zqh, zqi, zqj, zqk, zql, zqm, hne, hne.symm, hcl]
      refine ⟨⟨fun y hy => chDL_plain i y hy, by omega, by omega⟩, fun ob hz hf => ?_⟩
      cases ob with
      | none => exact (hz rfl).elim
      | some c =>
      have hE : (D.agg [D.slc [D.v (Value.string (nmC (i + 1)))], D.slc [D.v (Value.string (nmC i))], D.v (Value.slice none 0 0), D.v (Value.slice none 0 0), D.v (Value.string q3), D.v (Value.string ByteArray.empty)]) = chD i := by rw [hq3]; rfl
      have hE2 : chD i :: chDL i = chDL (i + 1) := rfl
      have hcl2 := chDL_len (i + 1)
      have hcb : c ≠ bm := fun e => by
        have := hf c rfl
        rw [e, sget_self] at this; cases this
      simp only [hE, hE2]
      simp only [go_sem, ↓reduceIte, reduceCtorEq, zqa, zqb, zqc, zqd, zqe, zqf, zqg, zqh, zqi, zqj, zqk, zql, zqm, hcb, hcb.symm]
      refine hK _ _ ?_; clear hK K
      refine Goes.rebase [0, 5, 6, 7, 8, 9] ?_
      simp only [go_sem, ↓reduceIte, reduceCtorEq, zqa, zqb, zqc, zqd, zqe, zqf, zqg, zqh, zqi, zqj, zqk, zql, zqm]
      refine Goes.publish c (sget_self c _ _) ?_
      have hep : epub c 6 (chDL (i + 1)) [(0, .slc (b.map bD)), (5, .v (.int .i64 (n : Int))), (6, .ptr bm 2 0 0), (7, .v (.string (nmC i))), (8, .v (.int .i64 (i : Int))), (9, .v (.string (nmC (i + 1))))] = [(0, .slc (b.map bD)), (5, .v (.int .i64 (n : Int))), (6, .ptr bm 2 0 0), (7, .v (.string (nmC i))), (8, .v (.int .i64 (i : Int))), (9, .v (.string (nmC (i + 1))))] := by
        simp only [epub, List.map_cons, List.map_nil, pub_bytes]
        rfl
      rw [hep]
      have hsp : spub c 6 (chDL (i + 1)) [(c, AObj.arr 6 (chDL (i + 1))), (bm, AObj.arr 2 [D.agg [D.own (some c) 6 (i + 1), D.v (Value.slice none 0 0)]])] = [(bm, AObj.arr 2 [.agg [.slc (chDL (i + 1)), .v (.slice none 0 0)]])] := by
        simp only [spub, if_true, if_neg hcb, AObj.pub, List.map_cons, List.map_nil, D.pub, pubs]
        rw [if_pos (show True ∧ True ∧ i + 1 ≤ (chDL (i + 1)).length from ⟨trivial, trivial, by rw [hcl2]; exact Nat.le_refl _⟩), List.take_of_length_le (by rw [hcl2]; exact Nat.le_refl _)]
      rw [hsp]
      refine Goes.region [0, 5, 6, 8, 9] fun K hK => ?_; simp (maxSteps := 4000000) only [go_sem, ↓reduceIte, reduceCtorEq, zqa, zqb, zqc, zqd, zqe, zqf, zqg, zqh, zqi, zqj, zqk, zql, zqm]
      refine hK _ _ ?_; clear hK K
      refine Goes.inBlock ?_
      refine Goes.region [0, 5, 6, 7, 8] fun K hK => ?_; simp (maxSteps := 4000000) only [go_sem, ↓reduceIte, reduceCtorEq, zqa, zqb, zqc, zqd, zqe, zqf, zqg, zqh, zqi, zqj, zqk, zql, zqm]
      refine hK _ _ ?_; clear hK K
      refine Goes.rebase [0, 5, 6, 7, 8] ?_
      simp only [go_sem, ↓reduceIte, reduceCtorEq, zqa, zqb, zqc, zqd, zqe, zqf, zqg, zqh, zqi, zqj, zqk, zql, zqm]
      rw [wrap_succ i (by omega)]
      exact ih (i + 1) _ _ ⟨by omega, rfl, rfl⟩ (by omega)
    · have hie : i = n := by
        have h : (n : Int) ≤ i := by simpa using h23
        omega
      subst hie
      obtain ⟨k, rfl⟩ : ∃ k, i = k + 1 := ⟨i - 1, by omega⟩
      have hsub : IntKind.i64.wrap (((k + 1 : Nat) : Int) - 1) = (k : Int) := by
        rw [show ((k + 1 : Nat) : Int) - 1 = (k : Int) from by omega]
        exact wrap_small k (by omega)
      have hol : ((chOut b (k + 1)).map XFile.d).length = k + 1 := by rw [List.length_map, chOut_len]
      have hlast := chOut_last b k
      rw [XFile.d] at hlast
      have hrl : ((revN (k + 1) b).map bD).length = b.length := by rw [List.length_map, revN_len]
      have hk0 : (0 : Int) ≤ (k : Int) := by omega
      have hk1 : (k : Int) < ((k + 1 : Nat) : Int) := by omega
      have h00 : (((0 : Nat) : Int) != 0) = false := rfl
      refine Goes.exit rfl ?_
      refine Goes.seq ?_
      refine Goes.regionM [0, 5, 6, 7] [52, 54] fun K hK => ?_; simp (maxSteps := 4000000) only [go_sem, ↓reduceIte, reduceCtorEq, zqa, zqb, zqc, zqd, zqe, zqf, zqg, zqh, zqi, zqj, zqk, zql, zqm]
      refine ⟨by decide, by decide, ?_⟩
      refine ⟨_, Tryz.call12, ((eval_calls ⟨chL (k + 1), []⟩ [⟨lB [115], b⟩] [nmC (k + 1)] (chain_ok b hb (k + 1) hn2) _).nn (by show [D.agg [.slc (nns (chDL (k + 1))), .slc []], .slc [.agg [_, .slc (nns (b.map bD))]], .slc [_]] = _; rw [nns_chDL, nns_bD]; rfl)).mono ?_⟩
      rintro e σ1 ⟨rfl, rfl⟩
      simp only [go_sem, ↓reduceIte, reduceCtorEq, zqa, zqb, zqc, zqd, zqe, zqf, zqg, zqh, zqi, zqj, zqk, zql, zqm, chain_eval b hb (k + 1) hn1 hn2, resF, resE, eD]
      refine hK _ _ ?_; clear hK K
      refine Goes.seq ?_
      refine Goes.seq ?_
      refine Goes.region [0, 5, 7, 10, 11] fun K hK => ?_; simp (maxSteps := 4000000) only [go_sem, ↓reduceIte, reduceCtorEq, zqa, zqb, zqc, zqd, zqe, zqf, zqg, zqh, zqi, zqj, zqk, zql, zqm, h00, hol, hsub, hlast, hrl, hk0, hk1, bne_self_eq_false, BEq.rfl, Bool.not_true, hbl, Nat.zero_le, Nat.zero_lt_succ]
      refine hK _ _ ?_; clear hK K
      refine Goes.condF rfl ?_
      refine Goes.skip ?_
      refine Goes.seq ?_
      refine Goes.seq ?_
      refine Goes.region [0, 5, 10] fun K hK => ?_; simp (maxSteps := 4000000) only [go_sem, ↓reduceIte, reduceCtorEq, zqa, zqb, zqc, zqd, zqe, zqf, zqg, zqh, zqi, zqj, zqk, zql, zqm]
      refine hK _ _ ?_; clear hK K
      refine Goes.block ?_
      refine Goes.rebase [0, 5, 10, 12] ?_
      simp only [go_sem, ↓reduceIte, reduceCtorEq, zqa, zqb, zqc, zqd, zqe, zqf, zqg, zqh, zqi, zqj, zqk, zql, zqm]
      refine Goes.while (fun (i : Nat) env' σ'' => (i ≤ b.length) ∧ env' = [(0, .slc (b.map bD)), (5, .v (.int .i64 ((k + 1 : Nat) : Int))), (10, .slc ((chOut b (k + 1)).map XFile.d)), (12, .v (.int .i64 (i : Int)))] ∧ σ'' = [(bm, AObj.arr 2 [.agg [.slc (chDL (k + 1)), .v (.slice none 0 0)]])]) (fun (i : Nat) => b.length - i) 0 ⟨by omega, rfl, rfl⟩ ?_
      rintro i env' σ'' ⟨hi, rfl, rfl⟩ ih
      have ih2 := ih
      refine Goes.seq ?_
      refine Goes.seq ?_
      refine Goes.region [0, 5, 10, 12] fun K hK => ?_; simp (maxSteps := 4000000) only [go_sem, ↓reduceIte, reduceCtorEq, zqa, zqb, zqc, zqd, zqe, zqf, zqg, zqh, zqi, zqj, zqk, zql, zqm, hbl]
      refine hK _ _ ?_; clear hK K
      refine Goes.cond rfl (fun h91 => ?_) (fun h91 => ?_)
      · have hlt : i < b.length := Int.ofNat_lt.1 (by simpa using h91)
        have hi0 : (0 : Int) ≤ (i : Int) := by omega
        have hi1 : (i : Int) < (b.length : Int) := by omega
        obtain ⟨q, hq⟩ : ∃ q, q = if (k + 1) % 2 = 1 then b.length - 1 - i else i := ⟨_, rfl⟩
        have hqb : q < b.length := by rw [hq]; split <;> omega
        have hq0 : (0 : Int) ≤ (q : Int) := by omega
        have hq1 : (q : Int) < (b.length : Int) := by omega
        have hg2 := getD_map_lt bD b q hqb
        have hval : (revN (k + 1) b)[i]'(by rw [revN_len]; exact hlt) = b[q] := by
          have h : ∀ l : List UInt8, l = revN (k + 1) b → ∀ h : i < l.length, l[i] = b[q] := fun l hl h => by
            rw [revN_eq] at hl
            split at hl
            · rename_i h2
              rw [if_pos h2] at hq
              subst hl; subst hq
              rw [List.getElem_reverse]
            · rename_i h2
              rw [if_neg h2] at hq
              subst hl; subst hq
              rfl
          exact h _ rfl _
        have hg1 := getD_map_lt bD (revN (k + 1) b) i (by rw [revN_len]; exact hlt)
        rw [hval] at hg1
        rw [bD] at hg1 hg2
        have hr2 : ∀ xo yo, aBin Tryz.prog .rem 3 xo yo (.v (.int .i64 ((k + 1 : Nat) : Int))) (.v (.int .i64 2)) = .val True (.v (.int .i64 (((k + 1) % 2 : Nat) : Int))) := fun xo yo => by
          rw [bin_rem _ _ _ _ .i64 ((k + 1 : Nat) : Int) 2 (by omega), Int.tmod_eq_emod_of_nonneg (by omega)]
          rfl
        have hs1 : IntKind.i64.wrap ((b.length : Int) - 1) = ((b.length - 1 : Nat) : Int) := by
          rw [show (b.length : Int) - 1 = ((b.length - 1 : Nat) : Int) from by omega]
          exact wrap_small _ (by omega)
        have hs2 : IntKind.i64.wrap (((b.length - 1 : Nat) : Int) - (i : Int)) = ((b.length - 1 - i : Nat) : Int) := by
          rw [show ((b.length - 1 : Nat) : Int) - (i : Int) = ((b.length - 1 - i : Nat) : Int) from by omega]
          exact wrap_small _ (by omega)
        refine Goes.skip ?_
        refine Goes.seq ?_
        refine Goes.block ?_
        refine Goes.seq ?_
        refine Goes.region [0, 5, 10, 12] fun K hK => ?_; simp (maxSteps := 4000000) only [go_sem, ↓reduceIte, reduceCtorEq, zqa, zqb, zqc, zqd, zqe, zqf, zqg, zqh, zqi, zqj, zqk, zql, zqm]
        refine hK _ _ ?_; clear hK K
        refine Goes.seq ?_
        refine Goes.seq ?_
        refine Goes.region [0, 5, 10, 12, 13] fun K hK => ?_; simp (maxSteps := 4000000) only [go_sem, ↓reduceIte, reduceCtorEq, zqa, zqb, zqc, zqd, zqe, zqf, zqg, zqh, zqi, zqj, zqk, zql, zqm, hr2]
        refine hK _ _ ?_; clear hK K
        refine Goes.join (fun env' σ' => env' = [(0, .slc (b.map bD)), (5, .v (.int .i64 ((k + 1 : Nat) : Int))), (10, .slc ((chOut b (k + 1)).map XFile.d)), (12, .v (.int .i64 (i : Int))), (13, .v (.int .i64 (q : Int)))] ∧ σ' = [(bm, AObj.arr 2 [.agg [.slc (chDL (k + 1)), .v (.slice none 0 0)]])]) (fun k1 hk1 => ?_) ?_
        · refine Goes.cond rfl (fun h97 => ?_) (fun h97 => ?_)
          · have hp1 : (k + 1) % 2 = 1 := Int.ofNat_inj.1 (by simpa using h97)
            rw [if_pos hp1] at hq
            refine Goes.region [0, 5, 10, 12] fun K hK => ?_; simp (maxSteps := 4000000) only [go_sem, ↓reduceIte, reduceCtorEq, zqa, zqb, zqc, zqd, zqe, zqf, zqg, zqh, zqi, zqj, zqk, zql, zqm, hbl, hs1, hs2]
            refine hK _ _ ?_; clear hK K
            refine Goes.rebase [0, 5, 10, 12, 13] ?_
            simp only [go_sem, ↓reduceIte, reduceCtorEq, zqa, zqb, zqc, zqd, zqe, zqf, zqg, zqh, zqi, zqj, zqk, zql, zqm]
            exact hk1 _ _ ⟨by rw [hq], rfl⟩
          · have hp1 : ¬ (k + 1) % 2 = 1 := fun e => by rw [e] at h97; cases h97
            rw [if_neg hp1] at hq
            refine Goes.skip ?_
            refine Goes.rebase [0, 5, 10, 12, 13] ?_
            simp only [go_sem, ↓reduceIte, reduceCtorEq, zqa, zqb, zqc, zqd, zqe, zqf, zqg, zqh, zqi, zqj, zqk, zql, zqm]
            exact hk1 _ _ ⟨by rw [hq], rfl⟩
        rintro env' σ' ⟨rfl, rfl⟩
        refine Goes.seq ?_
        refine Goes.draw [0, 5, 10, 12, 13] [] [] [] [(0, true), (1, true), (2, true), (3, true), (4, true), (5, true), (6, true), (7, true), (8, true), (9, true), (10, true), (11, true), (12, true), (13, true)] (by kernel_rfl) (by decide) (by kernel_rfl) fun K hK => ?_; simp (maxSteps := 4000000) only [go_sem, ↓reduceIte, reduceCtorEq, zqa, zqb, zqc, zqd, zqe, zqf, zqg, zqh, zqi, zqj, zqk, zql, zqm, hol, hlast, hsub, hk0, hk1, hrl, hi0, hi1, hq0, hq1, hg1, hg2, hbl, bne_self_eq_false]
        refine hK _ _ ?_; clear hK K
        refine Goes.condF rfl ?_
        refine Goes.skip ?_
        refine Goes.inBlock ?_
        refine Goes.region [0, 5, 10, 12] fun K hK => ?_; simp (maxSteps := 4000000) only [go_sem, ↓reduceIte, reduceCtorEq, zqa, zqb, zqc, zqd, zqe, zqf, zqg, zqh, zqi, zqj, zqk, zql, zqm]
        refine hK _ _ ?_; clear hK K
        refine Goes.rebase [0, 5, 10, 12] ?_
        simp only [go_sem, ↓reduceIte, reduceCtorEq, zqa, zqb, zqc, zqd, zqe, zqf, zqg, zqh, zqi, zqj, zqk, zql, zqm]
        rw [wrap_succ i (by omega)]
        exact ih (i + 1) _ _ ⟨by omega, rfl, rfl⟩ (by omega)
      · refine Goes.exit rfl ?_
        refine Goes.seq ?_
        refine Goes.region [] fun K hK => ?_; simp (maxSteps := 4000000) only [go_sem, ↓reduceIte, reduceCtorEq, zqa, zqb, zqc, zqd, zqe, zqf, zqg, zqh, zqi, zqj, zqk, zql, zqm]
        refine ⟨_, Tryz.call17, (awake_calls _).mono ?_⟩
        rintro e σ1 ⟨rfl, rfl⟩
        simp only [go_sem, ↓reduceIte, reduceCtorEq, zqa, zqb, zqc, zqd, zqe, zqf, zqg, zqh, zqi, zqj, zqk, zql, zqm]
        refine hK _ _ ?_; clear hK K
        refine Goes.ret hC Tryz.func9 (by simp [go_sem]) ?_
        simp only [go_sem, ↓reduceIte, reduceCtorEq, zqa, zqb, zqc, zqd, zqe, zqf, zqg, zqh, zqi, zqj, zqk, zql, zqm]
end Go.Ab.S16
namespace Go.Ab.S16
open Go Go.Proofs
theorem schain_law (xs : List D) (h : WTvs [.slice (.int .u8), .int .u8] xs) : ACalls Tryz.prog 9 xs [] (fun e _ => e = .ret (.v (.bool true))) := by
  obtain ⟨d, ds, rfl, h1, d2, ds2, rfl, h2, h3⟩ := h
  unfold WTvs at h3
  subst h3
  obtain ⟨b, hb⟩ := wt_bytes (h1.1 rfl)
  cases hb
  obtain ⟨a, ha, rfl⟩ := wt_u8 h2
  exact (schain_true b a ha []).mono fun e σ' h => h.1
end Go.Ab.S16
set_option linter.unusedSimpArgs false
set_option linter.unusedVariables false
set_option linter.constructorNameAsVariable false
namespace Go.Proofs.YticjnnmnjfpopaaGreatDoor
open Go.ChangeShapes Go.WideShapes Go.ChangeAt Go.RowKit Go.Ab
theorem own_knob : ownKnob Tryz.prog.godebug = none := by kernel_rfl
theorem laid_out : laidOutB Tryz.prog = true := by kernel_rfl
theorem cell_lt {w : World} {a : Addr} {v : Value} (h : w.cell? a = some v) : a.block < w.heap.size := by
  unfold World.cell? at h
  split at h
  · rename_i hb; exact (Array.getElem?_eq_some_iff.1 hb).1
  · cases h
/-- What the rows list. -/
def LL : List (String × DataW Unit) := Rows.scratchFitsRow.laid
theorem laid_plain : (LL.all fun x => x.2.handleName?.isNone) = true := by kernel_rfl
theorem laid_met (os : Os) (args : Array Value) : laidMetH Tryz.prog LL ((World.laidAll Tryz.prog os LL).forCall (fun _ _ => 0) ⟨#[], args, []⟩).memory := by
  rw [MakeChecks.laidMetH_plain _ _ _ laid_plain]
  exact laidMet_laidAll _ (by kernel_rfl) (by kernel_rfl)
theorem laid_shaped (os : Os) (args : Array Value) : ((World.laidAll Tryz.prog os LL).forCall (fun _ _ => 0) ⟨#[], args, []⟩).Shaped Tryz.prog :=
  World.shaped_of_ZipB (by kernel_rfl) (by kernel_rfl)
theorem laid_gok {W : World} (h : laidMetH Tryz.prog LL W) : GOk W (fun b => b < W.heap.size) := by
  rw [MakeChecks.laidMetH_plain _ _ _ laid_plain] at h
  intro g vs hg
  unfold glaid at hg
  simp only [glook] at hg
  split at hg
  · rename_i hgg
    subst hgg
    simp only [Option.some.injEq] at hg
    obtain ⟨g', t', cs, fuel, p, hg', ht', hv, hd⟩ := Lib.laidMet.reads h (show ("math/bits.deBruijn64tab", Rows.laid_math_bits_deBruijn64tab) ∈ LL from .tail _ (.head _))
    have hgn : Tryz.prog.globalNamed "math/bits.deBruijn64tab" = some 3 := by kernel_rfl
    have hty : (Tryz.prog.globals[3]?).map (·.type) = some 265 := by kernel_rfl
    obtain rfl := Option.some.inj (hgn.symm.trans hg')
    obtain rfl := Option.some.inj (hty.symm.trans ht')
    have hcs := Lib.cells_of_tab (n := 64) (k := .u8) (e := 5) (zs := vs.filterMap fun v => match v with | .int _ z => some z | _ => none) (by kernel_rfl) (by kernel_rfl) (by kernel_rfl) (by kernel_rfl) (by
      subst hg; exact hd)
    have hvs : (vs.filterMap fun v => match v with | .int _ z => some z | _ => none).map (fun z => Value.int .u8 z) = vs := by subst hg; rfl
    rw [hvs] at hcs
    have hcell : ∀ k x, vs[k]? = some x → W.cell? ⟨3, k, none⟩ = some x := fun k x hx => by
      rw [World.var?_cell hgn hv k]
      rw [← hcs] at hx
      simpa using hx
    have h0 : W.cell? ⟨3, 0, none⟩ = some (.int .u8 0) := hcell 0 _ (by subst hg; rfl)
    exact ⟨cell_lt h0, fun k x hx => by rw [Nat.zero_add]; exact hcell k x hx⟩
  · cases hg
end Go.Proofs.YticjnnmnjfpopaaGreatDoor
