/- A part of a proof about the given program: the abstract machine, what functions compute, laid in few texts. -/
import Derived.Test.YticjnnmnjfpopaaGreatDoorKFi
import Derived.Test.YticjnnmnjfpopaaGreatDoorTie
import Derived.Test.YticjnnmnjfpopaaGreatDoorCards
import Derived.ProofKit
import Derived.LaidMore
import Derived.OpenShut
import Derived.Lay
import Derived.SevenTiedAt
import Derived.Stop.Joined
import Derived.Lib.LaidU8
open Nat renaming reduceEqDiff → zqa, reduceBEq → zqb, reduceLT → zqe, reduceLeDiff → zqf, reduceAdd → zqg, reduceSub → zqh, reduceMul → zqi
open Int renaming reduceBEq → zqc, reduceBNe → zqd, reduceToNat → zqj, reduceEq → zqk, reduceLT → zql, reduceLE → zqm
set_option linter.unusedSimpArgs false
set_option linter.unusedVariables false
set_option linter.constructorNameAsVariable false
namespace Go.Ab.S16
open Go Go.Proofs Go.RowKit
theorem spans_len (p : Nat → Bool) (s : ByteArray) : ∀ (f pos : Nat) (st : Option Nat) (acc : List (Nat × Nat)), (Lib.spansFromP p s f pos st acc).1.length ≤ acc.length + f
  | 0, _, _, _ => Nat.le_refl _
  | f + 1, pos, st, acc => by
    unfold Lib.spansFromP
    split
    · split
      · split
        · refine Nat.le_trans (spans_len p s f _ _ _) ?_
          rw [List.length_append]
          simp; omega
        · exact Nat.le_trans (spans_len p s f _ _ _) (by omega)
      · split
        · exact Nat.le_trans (spans_len p s f _ _ _) (by omega)
        · exact Nat.le_trans (spans_len p s f _ _ _) (by omega)
    · exact Nat.le_add_right _ _
theorem words_len (s : ByteArray) : (wordsM s).length ≤ s.size + 1 := by
  unfold wordsM Lib.goFieldsP Lib.spansOfP
  rw [List.length_map]
  have := spans_len (fun x => x == 32) s s.size 0 none []
  generalize Lib.spansFromP (fun x => x == 32) s s.size 0 none [] = r at this
  unfold Lib.closeSpans
  split
  · rw [List.length_append]; simp at this ⊢; omega
  · simp at this; omega
theorem words_size (s : ByteArray) : ∀ w ∈ wordsM s, w.size ≤ s.size := fun w hw => by
  unfold wordsM Lib.goFieldsP at hw
  obtain ⟨x, _, rfl⟩ := List.mem_map.1 hw
  rw [ByteArray.size_extract]
  omega
theorem outsM_sub {ws outs : List ByteArray} {dep : ByteArray} (h : outsM ws = some (outs, dep)) : outs.length ≤ ws.length := by
  have key : ∀ {ws outs : List ByteArray} {d dep : ByteArray}, chkO ws d = some (outs, dep) → outs = ws := fun {ws outs d dep} h => by
    unfold chkO at h
    split at h
    · cases h; rfl
    · cases h
  unfold outsM at h
  split at h
  · split at h
    · rw [key h, List.length_take]; omega
    · cases h
  · rw [key h]; exact Nat.le_refl _
theorem shapeM_sub {cmd : ByteArray} {x : Shp} (h : shapeM cmd = some x) : x.args.length ≤ (wordsM cmd).length ∧ (∀ w ∈ x.args, w ∈ wordsM cmd) ∧ x.outs.length ≤ (wordsM cmd).length := by
  have key : ∀ {o : Bool} {ws : List ByteArray}, shapeW o ws = some x → x.args.length ≤ ws.length ∧ (∀ w ∈ x.args, w ∈ ws) ∧ x.outs.length ≤ ws.length := fun {o ws} h => by
    unfold shapeW at h
    split at h
    · split at h
      · split at h
        · rename_i ho
          split at h
          · cases h
            have := outsM_sub ho
            refine ⟨?_, fun w hw => List.mem_of_mem_take (List.mem_of_mem_drop hw), ?_⟩
            · simp only [List.length_drop, List.length_take]; omega
            · rw [List.length_drop] at this; exact Nat.le_trans this (by omega)
          · cases h
        · cases h
      · cases h
    · cases h
  unfold shapeM at h
  split at h
  · obtain ⟨h1, h2, h3⟩ := key h
    rw [List.length_drop] at h1 h3
    exact ⟨by omega, fun w hw => List.mem_of_mem_drop (h2 w hw), by omega⟩
  · exact key h
theorem join_len (c : UInt8) (B : Nat) : ∀ l : List (List UInt8), (∀ x ∈ l, x.length ≤ B) → (Lib.join l [c]).length ≤ l.length * (B + 1)
  | [], _ => by simp [Lib.join_nil]
  | x :: r, h => by
    have h1 := lenP_join (x :: r) c
    have h2 : lenP (x :: r) ≤ (x :: r).length * (B + 1) := by
      have : ∀ l : List (List UInt8), (∀ x ∈ l, x.length ≤ B) → lenP l ≤ l.length * (B + 1) := by
        intro l
        induction l with
        | nil => intro _; simp [lenP]
        | cons y l ih =>
          intro hl
          have a := hl y (by simp)
          have b := ih fun z hz => hl z (by simp [hz])
          unfold lenP at b ⊢
          rw [List.map_cons, List.sum_cons, List.length_cons, Nat.succ_mul]
          omega
      exact this _ h
    exact Nat.le_trans h1 h2
theorem cmdOk (cmd : ByteArray) (h : cmd.size ≤ 20000) : CmdOk cmd := by
  have h1 := words_len cmd
  refine ⟨by omega, by omega, fun w hw => by have := words_size cmd w hw; omega, fun x hx => ?_⟩
  obtain ⟨a1, a2, a3⟩ := shapeM_sub hx
  refine ⟨by omega, ?_, by omega⟩
  have := join_len 32 20000 (x.args.map (·.data.toList)) (fun y hy => by
    obtain ⟨w, hw, rfl⟩ := List.mem_map.1 hy
    have := words_size cmd w (a2 w hw)
    have hs : w.data.toList.length = w.size := by simp
    omega)
  rw [List.length_map] at this
  have : x.args.length * (20000 + 1) ≤ 20001 * 20001 := Nat.mul_le_mul (by omega) (by omega)
  omega
end Go.Ab.S16
set_option linter.unusedSimpArgs false
set_option linter.unusedVariables false
set_option linter.constructorNameAsVariable false
namespace Go.Ab
open Go
variable {P : Program}
mutual
def nn : D → D
  | .v (.slice none 0 0) => .slc []
  | .agg cs => .agg (nns cs)
  | .slc xs => .slc (nns xs)
  | .tup xs => .tup (nns xs)
  | d => d
def nns : List D → List D
  | [] => []
  | d :: r => nn d :: nns r
end
theorem nns_map : ∀ ds, nns ds = ds.map nn
  | [] => rfl
  | d :: ds => by rw [nns, nns_map ds]; rfl
theorem nn_v (x : Value) : nn (.v x) = .v x ∨ (x = .slice none 0 0 ∧ nn (.v x) = .slc []) := by
  by_cases h : x = .slice none 0 0
  · subst h; exact .inr ⟨rfl, by unfold nn; rfl⟩
  · refine .inl ?_
    unfold nn
    split <;> first | rfl | simp_all
theorem nn_cells (d : D) : (nn d).cells = d.cells.map nn := by
  cases d with
  | agg cs => simp [nn, D.cells, nns_map]
  | slc xs => simp [nn, D.cells]
  | tup xs => simp [nn, D.cells]
  | v x =>
    rcases nn_v x with h | ⟨_, h⟩ <;> simp [h, D.cells]
  | _ => simp [nn, D.cells]
theorem flat_nns : ∀ ds : List D, flat (ds.map nn) = (flat ds).map nn
  | [] => rfl
  | d :: ds => by simp [nn_cells, flat_nns ds]
mutual
theorem rep_nn {w : World} {S : Nat → Prop} : ∀ {d : D} {v : Value}, Rep w S d v → Rep w S (nn d) v
  | _, _, .any => .any
  | _, _, .v (x := x) h => by
    rcases nn_v x with h1 | ⟨rfl, h1⟩
    · rw [h1]; exact .v h
    · rw [h1]; exact .slc0
  | _, _, .ptr => .ptr
  | _, _, .elt h1 h2 h3 => .elt h1 h2 h3
  | _, _, .slc0 => .slc0
  | _, _, .slc (xs := xs) (cap := cap) (b := b) (off := off) h1 h2 h3 h4 h5 => by
    have hl : (nns xs).length = xs.length := by rw [nns_map, List.length_map]
    have hr := repL_nn h2
    rw [nns_map, ← flat_nns, ← nns_map] at hr
    have key : Rep w S (.slc (nns xs)) (.slice (some ⟨b, off, none⟩) (nns xs).length cap) := Rep.slc h1 hr h3 (fun y hy => by
      rw [nns_map] at hy
      obtain ⟨z, hz, rfl⟩ := List.mem_map.1 hy
      rw [nn_cells, List.length_map]; exact h4 z hz) (by rw [hl]; exact h5)
    rw [hl] at key
    exact key
  | _, _, .own0 => .own0
  | _, _, .own hh hn hc hm => .own hh hn hc hm
  | _, _, .win0 => .win0
  | _, _, .win hh hn hc hm => .win hh hn hc hm
  | _, _, .agg hr => .agg (repL_nn hr)
  | _, _, .tup hr => .tup (repL_nn hr)
  | _, _, .map => .map
  | _, _, .clo hf hc => .clo hf hc
  | _, _, .ifc h => .ifc h
theorem repL_nn {w : World} {S : Nat → Prop} : ∀ {ds : List D} {vs : List Value}, RepL w S ds vs → RepL w S (nns ds) vs
  | _, _, .nil => .nil
  | _, _, .cons h t => .cons (rep_nn h) (repL_nn t)
end
/-- A contract, called with nil slices where it speaks of empty rows. -/
theorem ACalls.nn {f : FuncId} {args args' : List D} {σ : Store} {R : AEnd → Store → Prop} (h : ACalls P f args' σ R) (he : nns args = args') : ACalls P f args σ R :=
  h.args_le fun w S vs hr => he ▸ repL_nn hr
end Go.Ab
set_option linter.unusedSimpArgs false
set_option linter.unusedVariables false
set_option linter.constructorNameAsVariable false
namespace Go.Ab.S16
open Go Go.Proofs Go.RowKit
theorem edgeOk (outs ins impl order : List ByteArray) (cmd dep : ByteArray) (h1 : outs.length ≤ 10) (h2 : ins.length ≤ 10) (h3 : impl.length ≤ 10) (h4 : order.length ≤ 10) (hc : cmd.size ≤ 20000) (hs : ∀ f ∈ outs ++ ins ++ impl ++ order, f.size < 2 ^ 40) : EdgeOk ⟨outs, ins, impl, order, cmd, dep⟩ :=
  ⟨⟨h1, h2, h3, h4⟩, cmdOk cmd hc, fun f hf => hs f (by simp [hf]), fun f hf => hs f (by
    have : f ∈ ins ++ impl ++ order := hf
    simp only [List.mem_append] at this ⊢
    rcases this with (h | h) | h
    · exact .inl (.inl (.inr h))
    · exact .inl (.inr h)
    · exact .inr h)⟩
theorem aw_ok : EvOk awM awL [] := by
  refine ⟨by decide, fun e he => ?_, by decide, by decide, fun f hf => ?_, by decide⟩
  · simp only [awM, List.mem_cons, List.not_mem_nil, or_false] at he
    rcases he with rfl | rfl
    · exact edgeOk _ _ _ _ _ _ (by decide) (by decide) (by decide) (by decide) (by decide) (by decide)
    · exact edgeOk _ _ _ _ _ _ (by decide) (by decide) (by decide) (by decide) (by decide) (by decide)
  · simp only [awL, List.mem_cons, List.not_mem_nil, or_false] at hf
    subst hf
    exact ⟨by decide, by decide⟩
theorem at4 {α : Type} (a b c d e : α) (l : List α) : (a :: b :: c :: d :: e :: l).toArray[4]? = some e := rfl
theorem at5 {α : Type} (a b c d e f : α) (l : List α) : (a :: b :: c :: d :: e :: f :: l).toArray[5]? = some f := rfl
theorem at6 {α : Type} (a b c d e f g : α) (l : List α) : (a :: b :: c :: d :: e :: f :: g :: l).toArray[6]? = some g := rfl
theorem at7 {α : Type} (a b c d e f g h : α) (l : List α) : (a :: b :: c :: d :: e :: f :: g :: h :: l).toArray[7]? = some h := rfl
theorem at8 {α : Type} (a b c d e f g h i : α) (l : List α) : (a :: b :: c :: d :: e :: f :: g :: h :: i :: l).toArray[8]? = some i := rfl
theorem at9 {α : Type} (a b c d e f g h i j : α) (l : List α) : (a :: b :: c :: d :: e :: f :: g :: h :: i :: j :: l).toArray[9]? = some j := rfl
theorem at10 {α : Type} (a b c d e f g h i j k : α) (l : List α) : (a :: b :: c :: d :: e :: f :: g :: h :: i :: j :: k :: l).toArray[10]? = some k := rfl
theorem awake_calls (σ : Store) : ACalls Tryz.prog 17 [] σ (fun e σ' => e = .ret (.v (.bool true)) ∧ σ' = σ) := by
  refine ACalls.still ?_ σ
  refine ACalls.forget (R := fun e _ => e = .ret (.v (.bool true))) ?_ fun e σ' h => ⟨[], SLe.nil _, h, rfl⟩
  have hev := fun σ => eval_calls awM awL [] aw_ok σ
  simp only [aw_eval, resF, resE] at hev
  refine ACalls.of_body Tryz.func17 rfl Tryz.ntmps17 (by simp) fun C hC => ?_
  refine Goes.seq ?_
  refine Goes.region [] fun K hK => ?_; simp (maxSteps := 4000000) only [go_sem, ↓reduceIte, reduceCtorEq, zqa, zqb, zqc, zqd, zqe, zqf, zqg, zqh, zqi, zqj, zqk, zql, zqm]
  refine hK _ _ ?_; clear hK K
  refine Goes.seq ?_
  refine Goes.regionM [] [4, 5, 7, 8, 10] fun K hK => ?_; simp (maxSteps := 4000000) only [go_sem, ↓reduceIte, reduceCtorEq, zqa, zqb, zqc, zqd, zqe, zqf, zqg, zqh, zqi, zqj, zqk, zql, zqm]
  refine ⟨by decide, by decide, by decide, by decide, ⟨by decide, by decide⟩, fun b1 => ?_⟩
  refine hK _ _ ?_; clear hK K
  refine Goes.seq ?_
  refine Goes.regionOpen [1] ?_
  refine Goes.op (at0 _ _) rfl nofun dstB_lit ?_
  simp only [go_sem, ↓reduceIte, reduceCtorEq, zqa, zqb, zqc, zqd, zqe, zqf, zqg, zqh, zqi, zqj, zqk, zql, zqm]
  refine Goes.opBytes (e8 := 5) (at1 _ _ _) rfl (at2 _ _ _ _) rfl rfl rfl rfl rfl dstB_lit dstB_lit (by kernel_rfl) (by kernel_rfl) ?_
  simp only [go_sem, ↓reduceIte, reduceCtorEq, zqa, zqb, zqc, zqd, zqe, zqf, zqg, zqh, zqi, zqj, zqk, zql, zqm]
  refine ⟨by decide, fun b hb => ?_⟩
  refine Goes.rebase [13, 15] ?_
  simp only [go_sem, ↓reduceIte, reduceCtorEq, zqa, zqb, zqc, zqd, zqe, zqf, zqg, zqh, zqi, zqj, zqk, zql, zqm]
  refine Goes.le (ELe.refl _) (σ' := cellsOf (some b) 1 [bD 120] ++ []) (sle_cons2 (SLe.nil _)) ?_
  refine pubSlot2 15 (o := some b) (xs := [bD 120]) rfl ⟨fun c hc => rfl, nofun⟩ (fun c hc => PubOK.nil c) (fun c hc p hp hk => ?_) ?_
  · simp only [List.mem_cons, List.not_mem_nil, or_false] at hp
    rcases hp with rfl | rfl
    · rfl
    · exact absurd rfl hk
  simp only [go_sem, ↓reduceIte, reduceCtorEq, zqa, zqb, zqc, zqd, zqe, zqf, zqg, zqh, zqi, zqj, zqk, zql, zqm]
  refine Goes.op (at3 _ _ _ _ _) rfl nofun dstB_lit ?_
  simp only [go_sem, ↓reduceIte, reduceCtorEq, zqa, zqb, zqc, zqd, zqe, zqf, zqg, zqh, zqi, zqj, zqk, zql, zqm]
  refine Goes.op (at4 _ _ _ _ _ _) rfl nofun dstB_lit ?_
  simp only [go_sem, ↓reduceIte, reduceCtorEq, zqa, zqb, zqc, zqd, zqe, zqf, zqg, zqh, zqi, zqj, zqk, zql, zqm]
  refine ⟨⟨by decide, by decide⟩, fun b2 => ?_⟩
  refine Goes.rebase [13, 17] ?_
  simp only [go_sem, ↓reduceIte, reduceCtorEq, zqa, zqb, zqc, zqd, zqe, zqf, zqg, zqh, zqi, zqj, zqk, zql, zqm]
  refine Goes.le (ELe.refl _) (σ' := cellsOf (some b2) 2 (awL.map XFile.d) ++ []) (sle_cons2 (SLe.nil _)) ?_
  refine pubSlot2 17 (o := some b2) (xs := awL.map XFile.d) rfl ⟨fun c hc => rfl, nofun⟩ (fun c hc => PubOK.nil c) (fun c hc p hp hk => ?_) ?_
  · simp only [List.mem_cons, List.not_mem_nil, or_false] at hp
    rcases hp with rfl | rfl
    · rfl
    · exact absurd rfl hk
  simp only [go_sem, ↓reduceIte, reduceCtorEq, zqa, zqb, zqc, zqd, zqe, zqf, zqg, zqh, zqi, zqj, zqk, zql, zqm]
  refine Goes.op (at5 _ _ _ _ _ _ _) rfl nofun dstB_lit ?_
  simp only [go_sem, ↓reduceIte, reduceCtorEq, zqa, zqb, zqc, zqd, zqe, zqf, zqg, zqh, zqi, zqj, zqk, zql, zqm]
  refine ⟨_, Tryz.call12, ((hev _).nn (by kernel_rfl)).mono ?_⟩
  rintro e σ1 ⟨rfl, rfl⟩
  simp only [go_sem, ↓reduceIte, reduceCtorEq, zqa, zqb, zqc, zqd, zqe, zqf, zqg, zqh, zqi, zqj, zqk, zql, zqm]
  refine Goes.op (at6 _ _ _ _ _ _ _ _) rfl nofun dstB_lit ?_
  simp only [go_sem, ↓reduceIte, reduceCtorEq, zqa, zqb, zqc, zqd, zqe, zqf, zqg, zqh, zqi, zqj, zqk, zql, zqm]
  refine Goes.op (at7 _ _ _ _ _ _ _ _ _) rfl nofun dstB_lit ?_
  simp only [go_sem, ↓reduceIte, reduceCtorEq, zqa, zqb, zqc, zqd, zqe, zqf, zqg, zqh, zqi, zqj, zqk, zql, zqm]
  refine Goes.op (at8 _ _ _ _ _ _ _ _ _ _) rfl nofun dstB_lit ?_
  simp only [go_sem, ↓reduceIte, reduceCtorEq, zqa, zqb, zqc, zqd, zqe, zqf, zqg, zqh, zqi, zqj, zqk, zql, zqm]
  refine Goes.op (at9 _ _ _ _ _ _ _ _ _ _ _) rfl nofun dstB_lit ?_
  simp only [go_sem, ↓reduceIte, reduceCtorEq, zqa, zqb, zqc, zqd, zqe, zqf, zqg, zqh, zqi, zqj, zqk, zql, zqm]
  refine Goes.op (at10 _ _ _ _ _ _ _ _ _ _ _ _) rfl nofun dstB_lit ?_
  simp only [go_sem, ↓reduceIte, reduceCtorEq, zqa, zqb, zqc, zqd, zqe, zqf, zqg, zqh, zqi, zqj, zqk, zql, zqm]
  refine Goes.regionEnd ?_
  refine Goes.seq ?_
  have ho : awOut.map XFile.d = [.agg [.v (.string ⟨#[98]⟩), .slc [bD 120]], .agg [.v (.string ⟨#[99]⟩), .slc [bD 120, bD 120]]] := rfl
  rw [ho]
  unfold eD
  have h00 : (((0 : Nat) : Int) == 0) = true := rfl
  have h22 : (((2 : Nat) : Int) == 2) = true := rfl
  have hdc : decide ((0 : Int) ≤ ((UInt8.toNat 120 : Nat) : Int) ∧ ((UInt8.toNat 120 : Nat) : Int) < 256) = true := by decide
  have hb1 : bytesOf [D.v (Value.int .u8 ((UInt8.toNat 120 : Nat) : Int))] = ⟨#[120]⟩ := rfl
  have hb2 : bytesOf [D.v (Value.int .u8 ((UInt8.toNat 120 : Nat) : Int)), D.v (Value.int .u8 ((UInt8.toNat 120 : Nat) : Int))] = ⟨#[120, 120]⟩ := rfl
  refine Goes.region [2, 3] fun K hK => ?_; simp (maxSteps := 4000000) only [go_sem, ↓reduceIte, reduceCtorEq, zqa, zqb, zqc, zqd, zqe, zqf, zqg, zqh, zqi, zqj, zqk, zql, zqm, h00, h22, hdc, hb1, hb2, BEq.rfl, Bool.and_self]
  refine ⟨by decide, by decide, by decide, by decide, ?_⟩
  refine hK _ _ ?_; clear hK K
  refine Goes.ret hC Tryz.func17 (by simp [go_sem]) ?_
  simp only [go_sem, ↓reduceIte, reduceCtorEq, zqa, zqb, zqc, zqd, zqe, zqf, zqg, zqh, zqi, zqj, zqk, zql, zqm]
end Go.Ab.S16
set_option linter.unusedSimpArgs false
set_option linter.unusedVariables false
set_option linter.constructorNameAsVariable false
namespace Go.Ab.S16
open Go Go.Proofs
theorem list_of {α : Type} {f : α → D} : ∀ {xs : List D}, (∀ x ∈ xs, ∃ a, x = f a) → ∃ l : List α, xs = l.map f
  | [], _ => ⟨[], rfl⟩
  | x :: xs, h => by
    obtain ⟨a, ha⟩ := h x (by simp)
    obtain ⟨l, hl⟩ := list_of (f := f) (xs := xs) fun y hy => h y (by simp [hy])
    exact ⟨a :: l, by rw [ha, hl]; rfl⟩
theorem wt_strs {ds : List D} (h : WT (.slice .str) ds) : ∃ l : List ByteArray, ds = [.slc (l.map sD)] := by
  unfold WT at h
  obtain ⟨xs, rfl, _, h⟩ := h
  obtain ⟨l, rfl⟩ := list_of (f := sD) (xs := xs) fun x hx => by
    obtain ⟨h1, _, h3⟩ := h x hx
    rw [h1 rfl] at h3
    unfold WT at h3
    obtain ⟨n, hn, _⟩ := h3
    cases hn
    exact ⟨n, rfl⟩
  exact ⟨l, rfl⟩
theorem wt_str {ds : List D} (h : WT .str ds) : ∃ s : ByteArray, ds = [.v (.string s)] := by
  unfold WT at h
  obtain ⟨s, rfl, _⟩ := h
  exact ⟨s, rfl⟩
def fitT : Tp := .struct [.slice .str, .slice .str, .str, .str]
theorem wt_fit {d : D} (h : WTv fitT d) : ∃ (outs made : List ByteArray) (a b : ByteArray), d = .agg [.slc (outs.map sD), .slc (made.map sD), .v (.string a), .v (.string b)] := by
  obtain ⟨cs, rfl, hw⟩ := h.2 rfl
  unfold fitT WT at hw
  obtain ⟨a0, r0, h0e, h0, r⟩ := hw
  obtain ⟨a1, r1, rfl, h1, r⟩ := r
  obtain ⟨a2, r2, rfl, h2, r⟩ := r
  obtain ⟨a3, r3, rfl, h3, r⟩ := r
  unfold WTs at r
  subst r
  obtain ⟨l0, rfl⟩ := wt_strs h0
  obtain ⟨l1, rfl⟩ := wt_strs h1
  obtain ⟨s2, rfl⟩ := wt_str h2
  obtain ⟨s3, rfl⟩ := wt_str h3
  exact ⟨l0, l1, s2, s3, by rw [h0e]; rfl⟩
end Go.Ab.S16
set_option linter.unusedSimpArgs false
set_option linter.unusedVariables false
set_option linter.constructorNameAsVariable false
namespace Go.Ab.S16
open Go Go.Proofs Go.RowKit
/-- A file that has a name alone. -/
def nF (n : ByteArray) : D := .agg [.v (.string n), .v (.slice none 0 0)]
theorem Views.dish {σ : Store} {e : List Value} {ob : Option Nat} {sz n : Nat} {xs : List D} {x1 x2 x3 : Value} {ys : List ByteArray} (hx : oget sz ob σ = some xs) (hn : n = xs.length) :
    Views σ [.agg (.slc (ys.map sD) :: e.map D.v), .agg [.own ob sz n, .v x1, .v x2, .v x3]] [.agg (.slc (ys.map sD) :: e.map D.v), .agg [.slc xs, .v x1, .v x2, .v x3]] := by
  subst hn
  cases ob with
  | none =>
    simp only [oget, Option.some.injEq] at hx
    subst hx
    refine .le fun w S vs h => ?_
    obtain ⟨v1, vs1, rfl, hv1, hv⟩ := h.cons_inv
    obtain ⟨v2, vs2, rfl, hv2, hv3⟩ := hv.cons_inv
    refine .cons hv1 (.cons ?_ hv3)
    cases hv2 with
    | agg hr =>
      obtain ⟨v4, vs4, rfl, hv4, hr2⟩ := hr.cons_inv
      cases hv4 with
      | own0 => exact .agg (.cons .slc0 hr2)
  | some b =>
    simp only [oget] at hx
    split at hx
    · rename_i s zs hg
      split at hx
      · rename_i hs
        cases hx; subst hs
        refine .pub hg ?_
        have h1 : ∀ l : List Value, pubs b s xs (l.map D.v) = l.map D.v := fun l => by
          induction l with
          | nil => rfl
          | cons x l ih => rw [List.map_cons, pubs, ih]; rfl
        have h2 : ∀ l : List ByteArray, pubs b s xs (l.map sD) = l.map sD := fun l => by
          induction l with
          | nil => rfl
          | cons x l ih => rw [List.map_cons, pubs, ih]; rfl
        have : pubs b s xs [.agg (.slc (ys.map sD) :: e.map D.v), .agg [.own (some b) s xs.length, .v x1, .v x2, .v x3]] = [.agg (.slc (ys.map sD) :: e.map D.v), .agg [.slc xs, .v x1, .v x2, .v x3]] := by
          simp only [pubs, D.pub, h1, h2]
          rw [if_pos ⟨trivial, trivial, Nat.le_refl _⟩, List.take_length]
        rw [this]
        exact .refl _ _
      · cases hx
    · cases hx
theorem nns_nF (l : List ByteArray) : nns (l.map nF) = (l.map fun n => (⟨n, []⟩ : XFile)).map XFile.d := by
  rw [nns_map, List.map_map, List.map_map]
  rfl
theorem nns_sD (l : List ByteArray) : nns (l.map sD) = l.map sD := by
  rw [nns_map, List.map_map]; rfl
theorem fitB_nF (o l : List ByteArray) : fitB o (l.map fun n => (⟨n, []⟩ : XFile)) = namesB o l := by
  unfold fitB
  rw [List.map_map]
  congr 1
  induction l with
  | nil => rfl
  | cons x l ih => rw [List.map_cons, ih]; rfl
theorem beq_comm_bytes (a b : ByteArray) : (a.toList == b.toList) = (b.toList == a.toList) := by
  rw [Bool.eq_iff_iff]
  constructor
  · intro h; rw [beq_iff_eq] at h ⊢; exact h.symm
  · intro h; rw [beq_iff_eq] at h ⊢; exact h.symm
set_option maxRecDepth 4000 in
theorem sfits_true (outs made : List ByteArray) (a b : ByteArray) (σ : Store) :
    ACalls Tryz.prog 7 [.agg [.slc (outs.map sD), .slc (made.map sD), .v (.string a), .v (.string b)]] σ (fun e σ' => e = .ret (.v (.bool true)) ∧ σ' = σ) := by
  refine ACalls.still ?_ σ
  refine ACalls.forget (R := fun e _ => e = .ret (.v (.bool true))) ?_ fun e σ' h => ⟨[], SLe.nil _, h, rfl⟩
  have hal : (outs.map sD).length = outs.length := List.length_map ..
  have hbl : (made.map sD).length = made.length := List.length_map ..
  refine ACalls.of_body Tryz.func7 rfl Tryz.ntmps7 (by simp) fun C hC => ?_
  refine Goes.seq ?_
  refine Goes.region [0] fun K hK => ?_; simp (maxSteps := 4000000) only [go_sem, ↓reduceIte, reduceCtorEq, zqa, zqb, zqc, zqd, zqe, zqf, zqg, zqh, zqi, zqj, zqk, zql, zqm]
  intro b1
  refine hK _ _ ?_; clear hK K
  refine Goes.seq ?_
  refine Goes.draw [1] [] [b1] [] [(0, true), (1, true), (2, true), (3, true), (4, true), (5, true), (6, true), (7, true), (8, true), (9, true), (10, true), (11, true)] (by kernel_rfl) (by decide) (by kernel_rfl) fun K hK => ?_; simp (maxSteps := 4000000) only [go_sem, ↓reduceIte, reduceCtorEq, zqa, zqb, zqc, zqd, zqe, zqf, zqg, zqh, zqi, zqj, zqk, zql, zqm]
  refine hK _ _ ?_; clear hK K
  refine Goes.seq ?_
  refine Goes.seq ?_
  rcases (show (20 < outs.length) ∨ (outs.length ≤ 20 ∧ 20 < made.length) ∨ (outs.length ≤ 20 ∧ made.length ≤ 20 ∧ 100 < a.size) ∨ (outs.length ≤ 20 ∧ made.length ≤ 20 ∧ a.size ≤ 100 ∧ 100 < b.size) ∨ (outs.length ≤ 20 ∧ made.length ≤ 20 ∧ a.size ≤ 100 ∧ b.size ≤ 100) from by omega) with h1 | ⟨h1, h2⟩ | ⟨h1, h2, h3⟩ | ⟨h1, h2, h3, h4⟩ | ⟨h1, h2, h3, h4⟩
  · have d1 : decide (((outs.length : Nat) : Int) > 20) = true := decide_eq_true (by omega)
    refine Goes.region [3, 4, 5, 6] fun K hK => ?_; simp (maxSteps := 4000000) only [go_sem, ↓reduceIte, reduceCtorEq, zqa, zqb, zqc, zqd, zqe, zqf, zqg, zqh, zqi, zqj, zqk, zql, zqm, hal, hbl, d1]
    refine hK _ _ ?_; clear hK K
    refine Goes.condT rfl ?_
    refine Goes.seq ?_
    refine Goes.region [] fun K hK => ?_; simp (maxSteps := 4000000) only [go_sem, ↓reduceIte, reduceCtorEq, zqa, zqb, zqc, zqd, zqe, zqf, zqg, zqh, zqi, zqj, zqk, zql, zqm]
    refine hK _ _ ?_; clear hK K
    refine Goes.ret hC Tryz.func7 (by simp [go_sem]) ?_
    simp only [go_sem, ↓reduceIte, reduceCtorEq, zqa, zqb, zqc, zqd, zqe, zqf, zqg, zqh, zqi, zqj, zqk, zql, zqm]
  · have d1 : decide (((outs.length : Nat) : Int) > 20) = false := decide_eq_false (by omega)
    have d2 : decide (((made.length : Nat) : Int) > 20) = true := decide_eq_true (by omega)
    refine Goes.region [3, 4, 5, 6] fun K hK => ?_; simp (maxSteps := 4000000) only [go_sem, ↓reduceIte, reduceCtorEq, zqa, zqb, zqc, zqd, zqe, zqf, zqg, zqh, zqi, zqj, zqk, zql, zqm, hal, hbl, d1, d2]
    refine hK _ _ ?_; clear hK K
    refine Goes.condT rfl ?_
    refine Goes.seq ?_
    refine Goes.region [] fun K hK => ?_; simp (maxSteps := 4000000) only [go_sem, ↓reduceIte, reduceCtorEq, zqa, zqb, zqc, zqd, zqe, zqf, zqg, zqh, zqi, zqj, zqk, zql, zqm]
    refine hK _ _ ?_; clear hK K
    refine Goes.ret hC Tryz.func7 (by simp [go_sem]) ?_
    simp only [go_sem, ↓reduceIte, reduceCtorEq, zqa, zqb, zqc, zqd, zqe, zqf, zqg, zqh, zqi, zqj, zqk, zql, zqm]
  · have d1 : decide (((outs.length : Nat) : Int) > 20) = false := decide_eq_false (by omega)
    have d2 : decide (((made.length : Nat) : Int) > 20) = false := decide_eq_false (by omega)
    have d3 : decide (((a.size : Nat) : Int) > 100) = true := decide_eq_true (by omega)
    refine Goes.region [3, 4, 5, 6] fun K hK => ?_; simp (maxSteps := 4000000) only [go_sem, ↓reduceIte, reduceCtorEq, zqa, zqb, zqc, zqd, zqe, zqf, zqg, zqh, zqi, zqj, zqk, zql, zqm, hal, hbl, d1, d2, d3]
    refine hK _ _ ?_; clear hK K
    refine Goes.condT rfl ?_
    refine Goes.seq ?_
    refine Goes.region [] fun K hK => ?_; simp (maxSteps := 4000000) only [go_sem, ↓reduceIte, reduceCtorEq, zqa, zqb, zqc, zqd, zqe, zqf, zqg, zqh, zqi, zqj, zqk, zql, zqm]
    refine hK _ _ ?_; clear hK K
    refine Goes.ret hC Tryz.func7 (by simp [go_sem]) ?_
    simp only [go_sem, ↓reduceIte, reduceCtorEq, zqa, zqb, zqc, zqd, zqe, zqf, zqg, zqh, zqi, zqj, zqk, zql, zqm]
  · have d1 : decide (((outs.length : Nat) : Int) > 20) = false := decide_eq_false (by omega)
    have d2 : decide (((made.length : Nat) : Int) > 20) = false := decide_eq_false (by omega)
    have d3 : decide (((a.size : Nat) : Int) > 100) = false := decide_eq_false (by omega)
    have d4 : decide (((b.size : Nat) : Int) > 100) = true := decide_eq_true (by omega)
    refine Goes.region [3, 4, 5, 6] fun K hK => ?_; simp (maxSteps := 4000000) only [go_sem, ↓reduceIte, reduceCtorEq, zqa, zqb, zqc, zqd, zqe, zqf, zqg, zqh, zqi, zqj, zqk, zql, zqm, hal, hbl, d1, d2, d3, d4]
    refine hK _ _ ?_; clear hK K
    refine Goes.condT rfl ?_
    refine Goes.seq ?_
    refine Goes.region [] fun K hK => ?_; simp (maxSteps := 4000000) only [go_sem, ↓reduceIte, reduceCtorEq, zqa, zqb, zqc, zqd, zqe, zqf, zqg, zqh, zqi, zqj, zqk, zql, zqm]
    refine hK _ _ ?_; clear hK K
    refine Goes.ret hC Tryz.func7 (by simp [go_sem]) ?_
    simp only [go_sem, ↓reduceIte, reduceCtorEq, zqa, zqb, zqc, zqd, zqe, zqf, zqg, zqh, zqi, zqj, zqk, zql, zqm]
  · have d1 : decide (((outs.length : Nat) : Int) > 20) = false := decide_eq_false (by omega)
    have d2 : decide (((made.length : Nat) : Int) > 20) = false := decide_eq_false (by omega)
    have d3 : decide (((a.size : Nat) : Int) > 100) = false := decide_eq_false (by omega)
    have d4 : decide (((b.size : Nat) : Int) > 100) = false := decide_eq_false (by omega)
    refine Goes.region [3, 4, 5, 6] fun K hK => ?_; simp (maxSteps := 4000000) only [go_sem, ↓reduceIte, reduceCtorEq, zqa, zqb, zqc, zqd, zqe, zqf, zqg, zqh, zqi, zqj, zqk, zql, zqm, hal, hbl, d1, d2, d3, d4]
    refine hK _ _ ?_; clear hK K
    refine Goes.condF rfl ?_
    refine Goes.skip ?_
    refine Goes.seq ?_
    refine Goes.region [3, 4, 5, 6] fun K hK => ?_; simp (maxSteps := 4000000) only [go_sem, ↓reduceIte, reduceCtorEq, zqa, zqb, zqc, zqd, zqe, zqf, zqg, zqh, zqi, zqj, zqk, zql, zqm]
    intro bd hbd
    refine hK _ _ ?_; clear hK K
    refine Goes.seq ?_
    refine Goes.seq ?_
    refine Goes.region [3, 4, 5, 6, 7] fun K hK => ?_; simp (maxSteps := 4000000) only [go_sem, ↓reduceIte, reduceCtorEq, zqa, zqb, zqc, zqd, zqe, zqf, zqg, zqh, zqi, zqj, zqk, zql, zqm]
    refine hK _ _ ?_; clear hK K
    refine Goes.block ?_
    have hne : bd ≠ b1 := fun e => by subst e; rw [sget_self] at hbd; cases hbd
    refine Goes.row_le (ys := [.agg [.own none 2 0, .v (.bool false), .v (.string b), .v (.string ⟨#[]⟩)]]) (fun w S vs h => by
      obtain ⟨v, vs, rfl, h1, h2⟩ := RepL.cons_inv (show RepL w S (.v (.slice none 0 0) :: [.v (.bool false), .v (.string b), .v (.string ⟨#[]⟩)]) vs from h)
      exact .cons (DLe.nil_own 2 w S v h1) h2) (by simp [D.cells]) ?_
    refine Goes.le (ELe.refl _) (σ' := [(bd, AObj.arr 4 [.agg [.own none 2 0, .v (.bool false), .v (.string b), .v (.string ⟨#[]⟩)]])]) (SLe.append_left _ [(b1, _)]) ?_
    refine Goes.rebase [3, 4, 5, 6, 7, 8] ?_
    simp only [go_sem, ↓reduceIte, reduceCtorEq, zqa, zqb, zqc, zqd, zqe, zqf, zqg, zqh, zqi, zqj, zqk, zql, zqm]
    refine Goes.while (fun (i : Nat) env' σ'' => ∃ oo : Option Nat, (i ≤ made.length ∧ GrD oo 2 ((made.take i).map nF) [(bd, AObj.arr 4 [.agg [.own oo 2 i, .v (.bool false), .v (.string b), .v (.string ⟨#[]⟩)]])]) ∧ env' = [(3, .slc (outs.map sD)), (4, .slc (made.map sD)), (5, .v (.string a)), (6, .v (.string b)), (7, .ptr bd 4 0 0), (8, .v (.int .i64 (i : Int)))] ∧ σ'' = cellsOf oo 2 ((made.take i).map nF) ++ [(bd, AObj.arr 4 [.agg [.own oo 2 i, .v (.bool false), .v (.string b), .v (.string ⟨#[]⟩)]])]) (fun (i : Nat) => made.length - i) 0 ⟨none, ⟨Nat.zero_le _, GrD.nil _ _⟩, rfl, rfl⟩ ?_
    rintro i env' σ'' ⟨oo, ⟨hi, hgr⟩, rfl, rfl⟩ ih
    have ih1 := ih
    refine Goes.seq ?_
    refine Goes.seq ?_
    refine Goes.region [3, 4, 5, 6, 7, 8] fun K hK => ?_; simp (maxSteps := 4000000) only [go_sem, ↓reduceIte, reduceCtorEq, zqa, zqb, zqc, zqd, zqe, zqf, zqg, zqh, zqi, zqj, zqk, zql, zqm, hbl]
    refine hK _ _ ?_; clear hK K
    refine Goes.cond rfl (fun h40 => ?_) (fun h40 => ?_)
    · have hlt : i < made.length := by simpa using h40
      have hg := getD_map_lt sD made i hlt
      rw [sD] at hg
      have hi0 : (0 : Int) ≤ (i : Int) := by omega
      have hi1 : (i : Int) < (made.length : Int) := by omega
      have gb := hgr.keep (sget_self bd _ _)
      have ho := hgr.oget
      have hd := hgr.sdel
      have htl : ((made.take i).map nF).length = i := by simp; omega
      have htk : List.take i ((made.take i).map nF) = (made.take i).map nF := List.take_of_length_le (by omega)
      refine Goes.skip ?_
      refine Goes.seq ?_
      refine Goes.block ?_
      refine Goes.draw [3, 4, 5, 6, 7, 8] [50] [bd] [10] [(0, true), (1, true), (2, true), (3, true), (4, true), (5, true), (6, true), (7, true), (8, false), (9, true), (10, false)] (by kernel_rfl) (by decide) (by kernel_rfl) fun K hK => ?_; simp (maxSteps := 4000000) only [go_sem, ↓reduceIte, reduceCtorEq, zqa, zqb, zqc, zqd, zqe, zqf, zqg, zqh, zqi, zqj, zqk, zql, zqm, hbl, hg, hi0, hi1, gb, ho, hd, htk]
      refine ⟨⟨by decide, by decide⟩, ⟨by omega, fun y hy => by rw [hy]; exact ⟨rfl, rfl⟩, by omega, by omega⟩, fun ob hz hf => ?_⟩
      have hmf : (made.take i).map nF ++ [D.agg [D.v (Value.string made[i]), D.v (.slice none 0 0)]] = (made.take (i + 1)).map nF := by rw [List.take_succ_eq_append_getElem hlt, List.map_append]; rfl
      simp only [hmf] at hz ⊢
      have hgr2 : ∀ {w : D}, GrD ob 2 ((made.take (i + 1)).map nF) [(bd, AObj.arr 4 [w])] := fun {w} => ⟨fun c hc => (by
        have h := hf c hc
        rw [sget_cons] at h ⊢
        split at h
        · cases h
        · rename_i e; rw [if_neg e]; rfl), hz⟩
      have gb2 : ∀ {w : D}, sget bd (cellsOf ob 2 ((made.take (i + 1)).map nF) ++ [(bd, AObj.arr 4 [w])]) = some (.arr 4 [w]) := fun {w} => hgr2.keep (sget_self ..)
      have sb2 : ∀ {w z : D}, sset bd (.arr 4 [z]) (cellsOf ob 2 ((made.take (i + 1)).map nF) ++ [(bd, AObj.arr 4 [w])]) = cellsOf ob 2 ((made.take (i + 1)).map nF) ++ [(bd, AObj.arr 4 [z])] := fun {w z} => by
        rw [hgr2.sset (by rw [sget_self]; rfl), sset_self]
      have hl3 : ((made.take (i + 1)).map nF).length = i + 1 := by simp; omega
      refine ⟨?_, ?_⟩
      · rintro b1 rfl
        rw [gb2, gb]
      simp only [go_sem, ↓reduceIte, reduceCtorEq, zqa, zqb, zqc, zqd, zqe, zqf, zqg, zqh, zqi, zqj, zqk, zql, zqm, gb2, sb2, hl3]
      refine hK _ _ ?_; clear hK K
      refine Goes.inBlock ?_
      refine Goes.region [3, 4, 5, 6, 7, 8] fun K hK => ?_; simp (maxSteps := 4000000) only [go_sem, ↓reduceIte, reduceCtorEq, zqa, zqb, zqc, zqd, zqe, zqf, zqg, zqh, zqi, zqj, zqk, zql, zqm]
      refine hK _ _ ?_; clear hK K
      refine Goes.rebase [3, 4, 5, 6, 7, 8] ?_
      simp only [go_sem, ↓reduceIte, reduceCtorEq, zqa, zqb, zqc, zqd, zqe, zqf, zqg, zqh, zqi, zqj, zqk, zql, zqm]
      rw [wrap_succ i (by omega)]
      exact ih (i + 1) _ _ ⟨ob, ⟨by omega, hgr2⟩, rfl, rfl⟩ (by omega)
    · have hie : i = made.length := by simp at h40; omega
      subst hie
      rw [List.take_length] at hgr ⊢
      have gb := hgr.keep (sget_self bd _ _)
      have hv := Views.dish (e := [.slice none 0 0, .slice none 0 0, .slice none 0 0, .string ⟨#[]⟩, .string a]) (x1 := .bool false) (x2 := .string b) (x3 := .string ⟨#[]⟩) (ys := outs) hgr.oget (List.length_map nF).symm
      have hfc := (fits_calls ⟨outs, [], [], [], ⟨#[]⟩, a⟩ ⟨made.map fun n => ⟨n, []⟩, false, b, ⟨#[]⟩⟩ [] (by show outs.length < _; omega) (by show (made.map _).length < _; rw [List.length_map]; omega))
      have hfn := ACalls.lend hv rfl (hfc.nn (by
        show nns [.agg (.slc (outs.map sD) :: _), .agg [.slc (made.map nF), _, _, _]] = _
        simp only [nns, nn, nns_sD, nns_nF]
        rfl))
      refine Goes.exit rfl ?_
      refine Goes.seq ?_
      rcases Bool.eq_false_or_eq_true (a.toList == b.toList) with hab | hab
      · have hba : (b.toList == a.toList) = true := by rw [beq_comm_bytes]; exact hab
        have hlaw : (((b.toList == a.toList) && fitB outs (made.map fun n => (⟨n, []⟩ : XFile))) == namesB outs made) = true := by rw [hba, Bool.true_and, fitB_nF]; exact beq_self_eq_true _
        refine Goes.region [3, 4, 5, 6, 7] fun K hK => ?_; simp (maxSteps := 4000000) only [go_sem, ↓reduceIte, reduceCtorEq, zqa, zqb, zqc, zqd, zqe, zqf, zqg, zqh, zqi, zqj, zqk, zql, zqm, gb]
        refine ⟨_, Tryz.call28, hfn.mono ?_⟩
        rintro e σ1 ⟨rfl, rfl⟩
        simp only [go_sem, ↓reduceIte, reduceCtorEq, zqa, zqb, zqc, zqd, zqe, zqf, zqg, zqh, zqi, zqj, zqk, zql, zqm, gb, hab]
        refine ⟨_, Tryz.call29, (names_calls outs made _ (by omega) (by omega)).mono ?_⟩
        rintro e σ1 ⟨rfl, rfl⟩
        simp only [go_sem, ↓reduceIte, reduceCtorEq, zqa, zqb, zqc, zqd, zqe, zqf, zqg, zqh, zqi, zqj, zqk, zql, zqm, hlaw]
        refine ⟨_, Tryz.call17, (awake_calls _).mono ?_⟩
        rintro e σ1 ⟨rfl, rfl⟩
        simp only [go_sem, ↓reduceIte, reduceCtorEq, zqa, zqb, zqc, zqd, zqe, zqf, zqg, zqh, zqi, zqj, zqk, zql, zqm]
        refine hK _ _ ?_; clear hK K
        refine Goes.ret hC Tryz.func7 (by simp [go_sem]) ?_
        simp only [go_sem, ↓reduceIte, reduceCtorEq, zqa, zqb, zqc, zqd, zqe, zqf, zqg, zqh, zqi, zqj, zqk, zql, zqm]
      · have hba : (b.toList == a.toList) = false := by rw [beq_comm_bytes]; exact hab
        have hlaw : (((b.toList == a.toList) && fitB outs (made.map fun n => (⟨n, []⟩ : XFile))) == false) = true := by rw [hba, Bool.false_and]; rfl
        refine Goes.region [3, 4, 5, 6, 7] fun K hK => ?_; simp (maxSteps := 4000000) only [go_sem, ↓reduceIte, reduceCtorEq, zqa, zqb, zqc, zqd, zqe, zqf, zqg, zqh, zqi, zqj, zqk, zql, zqm, gb]
        refine ⟨_, Tryz.call28, hfn.mono ?_⟩
        rintro e σ1 ⟨rfl, rfl⟩
        simp only [go_sem, ↓reduceIte, reduceCtorEq, zqa, zqb, zqc, zqd, zqe, zqf, zqg, zqh, zqi, zqj, zqk, zql, zqm, gb, hab, hlaw]
        refine ⟨_, Tryz.call17, (awake_calls _).mono ?_⟩
        rintro e σ1 ⟨rfl, rfl⟩
        simp only [go_sem, ↓reduceIte, reduceCtorEq, zqa, zqb, zqc, zqd, zqe, zqf, zqg, zqh, zqi, zqj, zqk, zql, zqm]
        refine hK _ _ ?_; clear hK K
        refine Goes.ret hC Tryz.func7 (by simp [go_sem]) ?_
        simp only [go_sem, ↓reduceIte, reduceCtorEq, zqa, zqb, zqc, zqd, zqe, zqf, zqg, zqh, zqi, zqj, zqk, zql, zqm]
end Go.Ab.S16
namespace Go.Ab.S16
open Go Go.Proofs
theorem sfits_law (xs : List D) (h : WTvs [fitT] xs) : ACalls Tryz.prog 7 xs [] (fun e _ => e = .ret (.v (.bool true))) := by
  obtain ⟨d, ds, rfl, h1, h2⟩ := h
  unfold WTvs at h2
  subst h2
  obtain ⟨outs, made, a, b, rfl⟩ := wt_fit h1
  exact (sfits_true outs made a b []).mono fun e σ' h => h.1
end Go.Ab.S16
set_option linter.unusedSimpArgs false
set_option linter.unusedVariables false
set_option linter.constructorNameAsVariable false
namespace Go.Proofs.YticjnnmnjfpopaaGreatDoor
open Go.ChangeShapes Go.WideShapes Go.ChangeAt Go.RowKit Go.Ab
theorem own_knob : ownKnob Tryz.prog.godebug = none := by kernel_rfl
theorem laid_out : laidOutB Tryz.prog = true := by kernel_rfl
theorem cell_lt {w : World} {a : Addr} {v : Value} (h : w.cell? a = some v) : a.block < w.heap.size := by
  unfold World.cell? at h
  split at h
  · rename_i hb; exact (Array.getElem?_eq_some_iff.1 hb).1
  · cases h
/-- What the rows list. -/
def LL : List (String × DataW Unit) := Rows.scratchFitsRow.laid
theorem laid_plain : (LL.all fun x => x.2.handleName?.isNone) = true := by kernel_rfl
theorem laid_met (os : Os) (args : Array Value) : laidMetH Tryz.prog LL ((World.laidAll Tryz.prog os LL).forCall (fun _ _ => 0) ⟨#[], args, []⟩).memory := by
  rw [MakeChecks.laidMetH_plain _ _ _ laid_plain]
  exact laidMet_laidAll _ (by kernel_rfl) (by kernel_rfl)
theorem laid_shaped (os : Os) (args : Array Value) : ((World.laidAll Tryz.prog os LL).forCall (fun _ _ => 0) ⟨#[], args, []⟩).Shaped Tryz.prog :=
  World.shaped_of_ZipB (by kernel_rfl) (by kernel_rfl)
theorem laid_gok {W : World} (h : laidMetH Tryz.prog LL W) : GOk W (fun b => b < W.heap.size) := by
  rw [MakeChecks.laidMetH_plain _ _ _ laid_plain] at h
  intro g vs hg
  unfold glaid at hg
  simp only [glook] at hg
  split at hg
  · rename_i hgg
    subst hgg
    simp only [Option.some.injEq] at hg
    obtain ⟨g', t', cs, fuel, p, hg', ht', hv, hd⟩ := Lib.laidMet.reads h (show ("math/bits.deBruijn64tab", Rows.laid_math_bits_deBruijn64tab) ∈ LL from .tail _ (.head _))
    have hgn : Tryz.prog.globalNamed "math/bits.deBruijn64tab" = some 3 := by kernel_rfl
    have hty : (Tryz.prog.globals[3]?).map (·.type) = some 265 := by kernel_rfl
    obtain rfl := Option.some.inj (hgn.symm.trans hg')
    obtain rfl := Option.some.inj (hty.symm.trans ht')
    have hcs := Lib.cells_of_tab (n := 64) (k := .u8) (e := 5) (zs := vs.filterMap fun v => match v with | .int _ z => some z | _ => none) (by kernel_rfl) (by kernel_rfl) (by kernel_rfl) (by kernel_rfl) (by
      subst hg; exact hd)
    have hvs : (vs.filterMap fun v => match v with | .int _ z => some z | _ => none).map (fun z => Value.int .u8 z) = vs := by subst hg; rfl
    rw [hvs] at hcs
    have hcell : ∀ k x, vs[k]? = some x → W.cell? ⟨3, k, none⟩ = some x := fun k x hx => by
      rw [World.var?_cell hgn hv k]
      rw [← hcs] at hx
      simpa using hx
    have h0 : W.cell? ⟨3, 0, none⟩ = some (.int .u8 0) := hcell 0 _ (by subst hg; rfl)
    exact ⟨cell_lt h0, fun k x hx => by rw [Nat.zero_add]; exact hcell k x hx⟩
  · cases hg
end Go.Proofs.YticjnnmnjfpopaaGreatDoor
