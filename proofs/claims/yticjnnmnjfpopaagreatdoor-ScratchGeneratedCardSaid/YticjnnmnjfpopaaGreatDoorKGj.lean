/- A part of a proof about the given program: the abstract machine, what functions compute, laid in few texts. -/
import Derived.Test.YticjnnmnjfpopaaGreatDoorKGi
import Derived.Test.YticjnnmnjfpopaaGreatDoorTie
import Derived.Test.YticjnnmnjfpopaaGreatDoorCards
import Derived.ProofKit
import Derived.LaidMore
import Derived.OpenShut
import Derived.Lay
import Derived.SevenTiedAt
import Derived.Stop.Joined
import Derived.Lib.LaidU8
open Nat renaming reduceEqDiff → zqa, reduceBEq → zqb, reduceLT → zqe, reduceLeDiff → zqf, reduceAdd → zqg, reduceSub → zqh, reduceMul → zqi
open Int renaming reduceBEq → zqc, reduceBNe → zqd, reduceToNat → zqj, reduceEq → zqk, reduceLT → zql, reduceLE → zqm
set_option linter.unusedSimpArgs false
set_option linter.unusedVariables false
set_option linter.constructorNameAsVariable false
namespace Go.Ab.S16
open Go Go.Proofs Go.RowKit
theorem spans_len (p : Nat → Bool) (s : ByteArray) : ∀ (f pos : Nat) (st : Option Nat) (acc : List (Nat × Nat)), (Lib.spansFromP p s f pos st acc).1.length ≤ acc.length + f
  | 0, _, _, _ => Nat.le_refl _
  | f + 1, pos, st, acc => by
    unfold Lib.spansFromP
    split
    · split
      · split
        · refine Nat.le_trans (spans_len p s f _ _ _) ?_
          rw [List.length_append]
          simp; omega
        · exact Nat.le_trans (spans_len p s f _ _ _) (by omega)
      · split
        · exact Nat.le_trans (spans_len p s f _ _ _) (by omega)
        · exact Nat.le_trans (spans_len p s f _ _ _) (by omega)
    · exact Nat.le_add_right _ _
theorem words_len (s : ByteArray) : (wordsM s).length ≤ s.size + 1 := by
  unfold wordsM Lib.goFieldsP Lib.spansOfP
  rw [List.length_map]
  have := spans_len (fun x => x == 32) s s.size 0 none []
  generalize Lib.spansFromP (fun x => x == 32) s s.size 0 none [] = r at this
  unfold Lib.closeSpans
  split
  · rw [List.length_append]; simp at this ⊢; omega
  · simp at this; omega
theorem words_size (s : ByteArray) : ∀ w ∈ wordsM s, w.size ≤ s.size := fun w hw => by
  unfold wordsM Lib.goFieldsP at hw
  obtain ⟨x, _, rfl⟩ := List.mem_map.1 hw
  rw [ByteArray.size_extract]
  omega
theorem outsM_sub {ws outs : List ByteArray} {dep : ByteArray} (h : outsM ws = some (outs, dep)) : outs.length ≤ ws.length := by
  have key : ∀ {ws outs : List ByteArray} {d dep : ByteArray}, chkO ws d = some (outs, dep) → outs = ws := fun {ws outs d dep} h => by
    unfold chkO at h
    split at h
    · cases h; rfl
    · cases h
  unfold outsM at h
  split at h
  · split at h
    · rw [key h, List.length_take]; omega
    · cases h
  · rw [key h]; exact Nat.le_refl _
theorem shapeM_sub {cmd : ByteArray} {x : Shp} (h : shapeM cmd = some x) : x.args.length ≤ (wordsM cmd).length ∧ (∀ w ∈ x.args, w ∈ wordsM cmd) ∧ x.outs.length ≤ (wordsM cmd).length := by
  have key : ∀ {o : Bool} {ws : List ByteArray}, shapeW o ws = some x → x.args.length ≤ ws.length ∧ (∀ w ∈ x.args, w ∈ ws) ∧ x.outs.length ≤ ws.length := fun {o ws} h => by
    unfold shapeW at h
    split at h
    · split at h
      · split at h
        · rename_i ho
          split at h
          · cases h
            have := outsM_sub ho
            refine ⟨?_, fun w hw => List.mem_of_mem_take (List.mem_of_mem_drop hw), ?_⟩
            · simp only [List.length_drop, List.length_take]; omega
            · rw [List.length_drop] at this; exact Nat.le_trans this (by omega)
          · cases h
        · cases h
      · cases h
    · cases h
  unfold shapeM at h
  split at h
  · obtain ⟨h1, h2, h3⟩ := key h
    rw [List.length_drop] at h1 h3
    exact ⟨by omega, fun w hw => List.mem_of_mem_drop (h2 w hw), by omega⟩
  · exact key h
theorem join_len (c : UInt8) (B : Nat) : ∀ l : List (List UInt8), (∀ x ∈ l, x.length ≤ B) → (Lib.join l [c]).length ≤ l.length * (B + 1)
  | [], _ => by simp [Lib.join_nil]
  | x :: r, h => by
    have h1 := lenP_join (x :: r) c
    have h2 : lenP (x :: r) ≤ (x :: r).length * (B + 1) := by
      have : ∀ l : List (List UInt8), (∀ x ∈ l, x.length ≤ B) → lenP l ≤ l.length * (B + 1) := by
        intro l
        induction l with
        | nil => intro _; simp [lenP]
        | cons y l ih =>
          intro hl
          have a := hl y (by simp)
          have b := ih fun z hz => hl z (by simp [hz])
          unfold lenP at b ⊢
          rw [List.map_cons, List.sum_cons, List.length_cons, Nat.succ_mul]
          omega
      exact this _ h
    exact Nat.le_trans h1 h2
theorem cmdOk (cmd : ByteArray) (h : cmd.size ≤ 20000) : CmdOk cmd := by
  have h1 := words_len cmd
  refine ⟨by omega, by omega, fun w hw => by have := words_size cmd w hw; omega, fun x hx => ?_⟩
  obtain ⟨a1, a2, a3⟩ := shapeM_sub hx
  refine ⟨by omega, ?_, by omega⟩
  have := join_len 32 20000 (x.args.map (·.data.toList)) (fun y hy => by
    obtain ⟨w, hw, rfl⟩ := List.mem_map.1 hy
    have := words_size cmd w (a2 w hw)
    have hs : w.data.toList.length = w.size := by simp
    omega)
  rw [List.length_map] at this
  have : x.args.length * (20000 + 1) ≤ 20001 * 20001 := Nat.mul_le_mul (by omega) (by omega)
  omega
end Go.Ab.S16
set_option linter.unusedSimpArgs false
set_option linter.unusedVariables false
set_option linter.constructorNameAsVariable false
namespace Go.Ab
open Go
variable {P : Program}
mutual
def nn : D → D
  | .v (.slice none 0 0) => .slc []
  | .agg cs => .agg (nns cs)
  | .slc xs => .slc (nns xs)
  | .tup xs => .tup (nns xs)
  | d => d
def nns : List D → List D
  | [] => []
  | d :: r => nn d :: nns r
end
theorem nns_map : ∀ ds, nns ds = ds.map nn
  | [] => rfl
  | d :: ds => by rw [nns, nns_map ds]; rfl
theorem nn_v (x : Value) : nn (.v x) = .v x ∨ (x = .slice none 0 0 ∧ nn (.v x) = .slc []) := by
  by_cases h : x = .slice none 0 0
  · subst h; exact .inr ⟨rfl, by unfold nn; rfl⟩
  · refine .inl ?_
    unfold nn
    split <;> first | rfl | simp_all
theorem nn_cells (d : D) : (nn d).cells = d.cells.map nn := by
  cases d with
  | agg cs => simp [nn, D.cells, nns_map]
  | slc xs => simp [nn, D.cells]
  | tup xs => simp [nn, D.cells]
  | v x =>
    rcases nn_v x with h | ⟨_, h⟩ <;> simp [h, D.cells]
  | _ => simp [nn, D.cells]
theorem flat_nns : ∀ ds : List D, flat (ds.map nn) = (flat ds).map nn
  | [] => rfl
  | d :: ds => by simp [nn_cells, flat_nns ds]
mutual
theorem rep_nn {w : World} {S : Nat → Prop} : ∀ {d : D} {v : Value}, Rep w S d v → Rep w S (nn d) v
  | _, _, .any => .any
  | _, _, .v (x := x) h => by
    rcases nn_v x with h1 | ⟨rfl, h1⟩
    · rw [h1]; exact .v h
    · rw [h1]; exact .slc0
  | _, _, .ptr => .ptr
  | _, _, .elt h1 h2 h3 => .elt h1 h2 h3
  | _, _, .slc0 => .slc0
  | _, _, .slc (xs := xs) (cap := cap) (b := b) (off := off) h1 h2 h3 h4 h5 => by
    have hl : (nns xs).length = xs.length := by rw [nns_map, List.length_map]
    have hr := repL_nn h2
    rw [nns_map, ← flat_nns, ← nns_map] at hr
    have key : Rep w S (.slc (nns xs)) (.slice (some ⟨b, off, none⟩) (nns xs).length cap) := Rep.slc h1 hr h3 (fun y hy => by
      rw [nns_map] at hy
      obtain ⟨z, hz, rfl⟩ := List.mem_map.1 hy
      rw [nn_cells, List.length_map]; exact h4 z hz) (by rw [hl]; exact h5)
    rw [hl] at key
    exact key
  | _, _, .own0 => .own0
  | _, _, .own hh hn hc hm => .own hh hn hc hm
  | _, _, .win0 => .win0
  | _, _, .win hh hn hc hm => .win hh hn hc hm
  | _, _, .agg hr => .agg (repL_nn hr)
  | _, _, .tup hr => .tup (repL_nn hr)
  | _, _, .map => .map
  | _, _, .clo hf hc => .clo hf hc
  | _, _, .ifc h => .ifc h
theorem repL_nn {w : World} {S : Nat → Prop} : ∀ {ds : List D} {vs : List Value}, RepL w S ds vs → RepL w S (nns ds) vs
  | _, _, .nil => .nil
  | _, _, .cons h t => .cons (rep_nn h) (repL_nn t)
end
/-- A contract, called with nil slices where it speaks of empty rows. -/
theorem ACalls.nn {f : FuncId} {args args' : List D} {σ : Store} {R : AEnd → Store → Prop} (h : ACalls P f args' σ R) (he : nns args = args') : ACalls P f args σ R :=
  h.args_le fun w S vs hr => he ▸ repL_nn hr
end Go.Ab
set_option linter.unusedSimpArgs false
set_option linter.unusedVariables false
set_option linter.constructorNameAsVariable false
namespace Go.Ab.S16
open Go Go.Proofs Go.RowKit
theorem edgeOk (outs ins impl order : List ByteArray) (cmd dep : ByteArray) (h1 : outs.length ≤ 10) (h2 : ins.length ≤ 10) (h3 : impl.length ≤ 10) (h4 : order.length ≤ 10) (hc : cmd.size ≤ 20000) (hs : ∀ f ∈ outs ++ ins ++ impl ++ order, f.size < 2 ^ 40) : EdgeOk ⟨outs, ins, impl, order, cmd, dep⟩ :=
  ⟨⟨h1, h2, h3, h4⟩, cmdOk cmd hc, fun f hf => hs f (by simp [hf]), fun f hf => hs f (by
    have : f ∈ ins ++ impl ++ order := hf
    simp only [List.mem_append] at this ⊢
    rcases this with (h | h) | h
    · exact .inl (.inl (.inr h))
    · exact .inl (.inr h)
    · exact .inr h)⟩
theorem aw_ok : EvOk awM awL [] := by
  refine ⟨by decide, fun e he => ?_, by decide, by decide, fun f hf => ?_, by decide⟩
  · simp only [awM, List.mem_cons, List.not_mem_nil, or_false] at he
    rcases he with rfl | rfl
    · exact edgeOk _ _ _ _ _ _ (by decide) (by decide) (by decide) (by decide) (by decide) (by decide)
    · exact edgeOk _ _ _ _ _ _ (by decide) (by decide) (by decide) (by decide) (by decide) (by decide)
  · simp only [awL, List.mem_cons, List.not_mem_nil, or_false] at hf
    subst hf
    exact ⟨by decide, by decide⟩
theorem at4 {α : Type} (a b c d e : α) (l : List α) : (a :: b :: c :: d :: e :: l).toArray[4]? = some e := rfl
theorem at5 {α : Type} (a b c d e f : α) (l : List α) : (a :: b :: c :: d :: e :: f :: l).toArray[5]? = some f := rfl
theorem at6 {α : Type} (a b c d e f g : α) (l : List α) : (a :: b :: c :: d :: e :: f :: g :: l).toArray[6]? = some g := rfl
theorem at7 {α : Type} (a b c d e f g h : α) (l : List α) : (a :: b :: c :: d :: e :: f :: g :: h :: l).toArray[7]? = some h := rfl
theorem at8 {α : Type} (a b c d e f g h i : α) (l : List α) : (a :: b :: c :: d :: e :: f :: g :: h :: i :: l).toArray[8]? = some i := rfl
theorem at9 {α : Type} (a b c d e f g h i j : α) (l : List α) : (a :: b :: c :: d :: e :: f :: g :: h :: i :: j :: l).toArray[9]? = some j := rfl
theorem at10 {α : Type} (a b c d e f g h i j k : α) (l : List α) : (a :: b :: c :: d :: e :: f :: g :: h :: i :: j :: k :: l).toArray[10]? = some k := rfl
theorem awake_calls (σ : Store) : ACalls Tryz.prog 17 [] σ (fun e σ' => e = .ret (.v (.bool true)) ∧ σ' = σ) := by
  refine ACalls.still ?_ σ
  refine ACalls.forget (R := fun e _ => e = .ret (.v (.bool true))) ?_ fun e σ' h => ⟨[], SLe.nil _, h, rfl⟩
  have hev := fun σ => eval_calls awM awL [] aw_ok σ
  simp only [aw_eval, resF, resE] at hev
  refine ACalls.of_body Tryz.func17 rfl Tryz.ntmps17 (by simp) fun C hC => ?_
  refine Goes.seq ?_
  refine Goes.region [] fun K hK => ?_; simp (maxSteps := 4000000) only [go_sem, ↓reduceIte, reduceCtorEq, zqa, zqb, zqc, zqd, zqe, zqf, zqg, zqh, zqi, zqj, zqk, zql, zqm]
  refine hK _ _ ?_; clear hK K
  refine Goes.seq ?_
  refine Goes.regionM [] [4, 5, 7, 8, 10] fun K hK => ?_; simp (maxSteps := 4000000) only [go_sem, ↓reduceIte, reduceCtorEq, zqa, zqb, zqc, zqd, zqe, zqf, zqg, zqh, zqi, zqj, zqk, zql, zqm]
  refine ⟨by decide, by decide, by decide, by decide, ⟨by decide, by decide⟩, fun b1 => ?_⟩
  refine hK _ _ ?_; clear hK K
  refine Goes.seq ?_
  refine Goes.regionOpen [1] ?_
  refine Goes.op (at0 _ _) rfl nofun dstB_lit ?_
  simp only [go_sem, ↓reduceIte, reduceCtorEq, zqa, zqb, zqc, zqd, zqe, zqf, zqg, zqh, zqi, zqj, zqk, zql, zqm]
  refine Goes.opBytes (e8 := 5) (at1 _ _ _) rfl (at2 _ _ _ _) rfl rfl rfl rfl rfl dstB_lit dstB_lit (by kernel_rfl) (by kernel_rfl) ?_
  simp only [go_sem, ↓reduceIte, reduceCtorEq, zqa, zqb, zqc, zqd, zqe, zqf, zqg, zqh, zqi, zqj, zqk, zql, zqm]
  refine ⟨by decide, fun b hb => ?_⟩
  refine Goes.rebase [13, 15] ?_
  simp only [go_sem, ↓reduceIte, reduceCtorEq, zqa, zqb, zqc, zqd, zqe, zqf, zqg, zqh, zqi, zqj, zqk, zql, zqm]
  refine Goes.le (ELe.refl _) (σ' := cellsOf (some b) 1 [bD 120] ++ []) (sle_cons2 (SLe.nil _)) ?_
  refine pubSlot2 15 (o := some b) (xs := [bD 120]) rfl ⟨fun c hc => rfl, nofun⟩ (fun c hc => PubOK.nil c) (fun c hc p hp hk => ?_) ?_
  · simp only [List.mem_cons, List.not_mem_nil, or_false] at hp
    rcases hp with rfl | rfl
    · rfl
    · exact absurd rfl hk
  simp only [go_sem, ↓reduceIte, reduceCtorEq, zqa, zqb, zqc, zqd, zqe, zqf, zqg, zqh, zqi, zqj, zqk, zql, zqm]
  refine Goes.op (at3 _ _ _ _ _) rfl nofun dstB_lit ?_
  simp only [go_sem, ↓reduceIte, reduceCtorEq, zqa, zqb, zqc, zqd, zqe, zqf, zqg, zqh, zqi, zqj, zqk, zql, zqm]
  refine Goes.op (at4 _ _ _ _ _ _) rfl nofun dstB_lit ?_
  simp only [go_sem, ↓reduceIte, reduceCtorEq, zqa, zqb, zqc, zqd, zqe, zqf, zqg, zqh, zqi, zqj, zqk, zql, zqm]
  refine ⟨⟨by decide, by decide⟩, fun b2 => ?_⟩
  refine Goes.rebase [13, 17] ?_
  simp only [go_sem, ↓reduceIte, reduceCtorEq, zqa, zqb, zqc, zqd, zqe, zqf, zqg, zqh, zqi, zqj, zqk, zql, zqm]
  refine Goes.le (ELe.refl _) (σ' := cellsOf (some b2) 2 (awL.map XFile.d) ++ []) (sle_cons2 (SLe.nil _)) ?_
  refine pubSlot2 17 (o := some b2) (xs := awL.map XFile.d) rfl ⟨fun c hc => rfl, nofun⟩ (fun c hc => PubOK.nil c) (fun c hc p hp hk => ?_) ?_
  · simp only [List.mem_cons, List.not_mem_nil, or_false] at hp
    rcases hp with rfl | rfl
    · rfl
    · exact absurd rfl hk
  simp only [go_sem, ↓reduceIte, reduceCtorEq, zqa, zqb, zqc, zqd, zqe, zqf, zqg, zqh, zqi, zqj, zqk, zql, zqm]
  refine Goes.op (at5 _ _ _ _ _ _ _) rfl nofun dstB_lit ?_
  simp only [go_sem, ↓reduceIte, reduceCtorEq, zqa, zqb, zqc, zqd, zqe, zqf, zqg, zqh, zqi, zqj, zqk, zql, zqm]
  refine ⟨_, Tryz.call12, ((hev _).nn (by kernel_rfl)).mono ?_⟩
  rintro e σ1 ⟨rfl, rfl⟩
  simp only [go_sem, ↓reduceIte, reduceCtorEq, zqa, zqb, zqc, zqd, zqe, zqf, zqg, zqh, zqi, zqj, zqk, zql, zqm]
  refine Goes.op (at6 _ _ _ _ _ _ _ _) rfl nofun dstB_lit ?_
  simp only [go_sem, ↓reduceIte, reduceCtorEq, zqa, zqb, zqc, zqd, zqe, zqf, zqg, zqh, zqi, zqj, zqk, zql, zqm]
  refine Goes.op (at7 _ _ _ _ _ _ _ _ _) rfl nofun dstB_lit ?_
  simp only [go_sem, ↓reduceIte, reduceCtorEq, zqa, zqb, zqc, zqd, zqe, zqf, zqg, zqh, zqi, zqj, zqk, zql, zqm]
  refine Goes.op (at8 _ _ _ _ _ _ _ _ _ _) rfl nofun dstB_lit ?_
  simp only [go_sem, ↓reduceIte, reduceCtorEq, zqa, zqb, zqc, zqd, zqe, zqf, zqg, zqh, zqi, zqj, zqk, zql, zqm]
  refine Goes.op (at9 _ _ _ _ _ _ _ _ _ _ _) rfl nofun dstB_lit ?_
  simp only [go_sem, ↓reduceIte, reduceCtorEq, zqa, zqb, zqc, zqd, zqe, zqf, zqg, zqh, zqi, zqj, zqk, zql, zqm]
  refine Goes.op (at10 _ _ _ _ _ _ _ _ _ _ _ _) rfl nofun dstB_lit ?_
  simp only [go_sem, ↓reduceIte, reduceCtorEq, zqa, zqb, zqc, zqd, zqe, zqf, zqg, zqh, zqi, zqj, zqk, zql, zqm]
  refine Goes.regionEnd ?_
  refine Goes.seq ?_
  have ho : awOut.map XFile.d = [.agg [.v (.string ⟨#[98]⟩), .slc [bD 120]], .agg [.v (.string ⟨#[99]⟩), .slc [bD 120, bD 120]]] := rfl
  rw [ho]
  unfold eD
  have h00 : (((0 : Nat) : Int) == 0) = true := rfl
  have h22 : (((2 : Nat) : Int) == 2) = true := rfl
  have hdc : decide ((0 : Int) ≤ ((UInt8.toNat 120 : Nat) : Int) ∧ ((UInt8.toNat 120 : Nat) : Int) < 256) = true := by decide
  have hb1 : bytesOf [D.v (Value.int .u8 ((UInt8.toNat 120 : Nat) : Int))] = ⟨#[120]⟩ := rfl
  have hb2 : bytesOf [D.v (Value.int .u8 ((UInt8.toNat 120 : Nat) : Int)), D.v (Value.int .u8 ((UInt8.toNat 120 : Nat) : Int))] = ⟨#[120, 120]⟩ := rfl
  refine Goes.region [2, 3] fun K hK => ?_; simp (maxSteps := 4000000) only [go_sem, ↓reduceIte, reduceCtorEq, zqa, zqb, zqc, zqd, zqe, zqf, zqg, zqh, zqi, zqj, zqk, zql, zqm, h00, h22, hdc, hb1, hb2, BEq.rfl, Bool.and_self]
  refine ⟨by decide, by decide, by decide, by decide, ?_⟩
  refine hK _ _ ?_; clear hK K
  refine Goes.ret hC Tryz.func17 (by simp [go_sem]) ?_
  simp only [go_sem, ↓reduceIte, reduceCtorEq, zqa, zqb, zqc, zqd, zqe, zqf, zqg, zqh, zqi, zqj, zqk, zql, zqm]
end Go.Ab.S16
set_option linter.unusedSimpArgs false
set_option linter.unusedVariables false
set_option linter.constructorNameAsVariable false
namespace Go.Ab.S16
open Go Go.Proofs
theorem wt_str {ds : List D} (h : WT .str ds) : ∃ s : ByteArray, ds = [.v (.string s)] := by
  unfold WT at h
  obtain ⟨s, rfl, _⟩ := h
  exact ⟨s, rfl⟩
end Go.Ab.S16
set_option linter.unusedSimpArgs false
set_option linter.unusedVariables false
set_option linter.constructorNameAsVariable false
namespace Go.Ab.S16
open Go Go.Proofs Go.RowKit
theorem nns_bD (l : List UInt8) : nns (l.map bD) = l.map bD := by
  rw [nns_map, List.map_map]; rfl
theorem nn_file (f : XFile) : nn f.d = f.d := by
  show D.agg [_, .slc (nns (f.b.map bD))] = _
  rw [nns_bD]; rfl
theorem nns_file (l : List XFile) : nns (l.map XFile.d) = l.map XFile.d := by
  rw [nns_map, List.map_map]
  exact List.map_congr_left fun f _ => nn_file f
theorem wrap_small (a : Nat) (h : a < 2 ^ 62) : IntKind.i64.wrap (a : Int) = a := by
  cases a with
  | zero => rfl
  | succ i => exact wrap_succ i (by omega)
end Go.Ab.S16
namespace Go.Ab.S16
open Go Go.Proofs
theorem wt_u8 {d : D} (h : WTv (.int .u8) d) : ∃ n : Nat, n < 256 ∧ d = .v (.int .u8 (n : Int)) := by
  have h0 := h.1 rfl
  unfold WT at h0
  obtain ⟨n, hn, hwf⟩ := h0
  cases hn
  have : 0 ≤ n ∧ n < 256 := by
    simp [Lit.wf, IntKind.min, IntKind.max, IntKind.signed, IntKind.bits] at hwf
    omega
  exact ⟨n.toNat, by omega, by congr 2; omega⟩
end Go.Ab.S16
set_option linter.unusedSimpArgs false
set_option linter.unusedVariables false
set_option linter.constructorNameAsVariable false
namespace Go.Ab.S16
open Go Go.Proofs Go.RowKit
/-- As cookR, whatever is made is short enough. -/
def cookU (cmd : ByteArray) (decl : List ByteArray) (files : List XFile) : Option XDish :=
  match shapeM cmd with
  | none => none
  | some x => match runV x.args decl files (bL x.verb) with
    | none => none
    | some (b, found) => some ⟨x.outs.map fun n => ⟨n, b⟩, x.once, x.dep, if (!(x.dep.toList == (⟨#[]⟩ : ByteArray).toList)) = true then lB (printT (x.outs.getD 0 ⟨#[]⟩) found ++ [10]) else ⟨#[]⟩⟩
def evalStepU (g : XGr) (l : List XFile) (n : Nat) (made : List XFile) : Nat ⊕ List XFile :=
  if (edgeOf g n).needs.any (missB g l) = true then .inl 6
  else match cookU (edgeOf g n).cmd ((edgeOf g n).ins ++ (edgeOf g n).impl) (filesFor g l made n) with
    | none => .inl 13
    | some x => if ((x.dep.toList == (edgeOf g n).dep.toList) && fitB (edgeOf g n).outs x.outs) = true then .inr (made ++ x.outs) else .inl 13
theorem cookU_of {cmd : ByteArray} {decl : List ByteArray} {files : List XFile} {x : XDish} (h : cookU cmd decl files = some x) (hs : ∀ f ∈ x.outs, f.b.length ≤ 65536) : cookM cmd decl files = some x := by
  unfold cookU at h
  unfold cookM cookR
  cases hsh : shapeM cmd with
  | none => rw [hsh] at h; cases h
  | some s =>
    rw [hsh] at h
    simp only at h ⊢
    cases hr : runV s.args decl files (bL s.verb) with
    | none => rw [hr] at h; cases h
    | some p =>
      obtain ⟨b, found⟩ := p
      rw [hr] at h
      simp only [Option.some.injEq] at h ⊢
      have ho := (shapeM_spec hsh).2.2.1
      subst h
      have hb : b.length ≤ 65536 := by
        match hso : s.outs, ho with
        | n :: r, _ => exact hs ⟨n, b⟩ (by show _ ∈ s.outs.map _; rw [hso]; simp)
      rw [if_pos hb]
theorem evalStep_of {g : XGr} {l : List XFile} {n : Nat} {made out : List XFile} (h : evalStepU g l n made = .inr out) : ∃ xs, out = made ++ xs ∧ ((∀ f ∈ xs, f.b.length ≤ 65536) → evalStep g l n made = .inr out) := by
  unfold evalStepU at h
  unfold evalStep
  split at h
  · cases h
  · rename_i hm
    cases hc : cookU (edgeOf g n).cmd ((edgeOf g n).ins ++ (edgeOf g n).impl) (filesFor g l made n) with
    | none => rw [hc] at h; cases h
    | some x =>
      rw [hc] at h
      simp only at h
      split at h
      · rename_i hf
        simp only [Sum.inr.injEq] at h
        subst h
        refine ⟨x.outs, rfl, fun hs => ?_⟩
        rw [if_neg hm, cookU_of hc hs]
        simp only
        rw [if_pos hf]
      · cases h
end Go.Ab.S16
set_option linter.unusedSimpArgs false
set_option linter.unusedVariables false
set_option linter.constructorNameAsVariable false
namespace Go.Ab.S16
open Go Go.Proofs Go.RowKit
theorem trimS_mem {l : List UInt8} {s : ByteArray} : ∀ c ∈ bL (trimS (lB l) s), c ∈ l := by
  unfold trimS
  split
  · intro c hc
    have : bL ((lB l).extract 0 ((lB l).size - s.size)) = (l.take ((lB l).size - s.size)) := by
      show ((lB l).extract 0 ((lB l).size - s.size)).data.toList = _
      rw [ext_list]
      rfl
    rw [this] at hc
    exact List.mem_of_mem_take hc
  · exact fun c hc => hc
theorem inclN_none {line : List UInt8} (h : ∀ c ∈ line, c ≠ 35) : inclN line = none := by
  unfold inclN
  rw [if_neg]
  intro hp
  unfold inclT at hp
  have hm := fun c hc => trimS_mem (l := line) (s := ⟨#[10]⟩) c hc
  generalize bL (trimS (lB line) ⟨#[10]⟩) = t at hp hm
  cases t with
  | nil => cases hp
  | cons x r =>
    have hx : x = 35 := by
      unfold Lib.hasPrefix incl at hp
      simp at hp
      exact hp.1.symm
    exact h x (hm x (by simp)) hx
/-- A text that includes nothing is put as it is. -/
theorem lnGo_plain (files : List XFile) (rec : List UInt8 → PSt → Option PSt) : ∀ (b cur : List UInt8) (st : PSt), (∀ c ∈ cur ++ b, c ≠ 35) → (st.out ++ (cur ++ b)).length ≤ 65536 → lnGo (putStep files rec) b cur st = some ⟨st.out ++ (cur ++ b), st.found, st.many⟩
  | [], cur, st, h, hl => by
    rw [List.append_nil] at h hl ⊢
    rw [lnGo, putStep, inclN_none h]
    simp only
    rw [if_pos hl]
  | c :: r, cur, st, h, hl => by
    have e : cur ++ c :: r = (cur ++ [c]) ++ r := by simp
    rw [e] at h hl ⊢
    rw [lnGo]
    split
    · have h1 : ∀ x ∈ cur ++ [c], x ≠ 35 := fun x hx => h x (List.mem_append_left _ hx)
      have hl1 : (st.out ++ (cur ++ [c])).length ≤ 65536 := by
        simp only [List.length_append] at hl ⊢; omega
      rw [putStep, inclN_none h1]
      simp only
      rw [if_pos hl1, Option.bind_some, lnGo_plain files rec r [] ⟨st.out ++ (cur ++ [c]), st.found, st.many⟩ (fun x hx => h x (List.mem_append_right _ hx)) (by
        show (st.out ++ (cur ++ [c]) ++ r).length ≤ _
        rw [List.append_assoc]; exact hl)]
      simp
    · exact lnGo_plain files rec r (cur ++ [c]) st h hl
def gnE (k : Nat) : XEdge := ⟨[lB [111]], [lB [97]], if k = 2 then [lB [104]] else [], if k = 1 then [lB [104]] else [], lB [105, 110, 99, 32, 97, 32, 62, 32, 111, 32, 58, 32, 100], lB [100]⟩
def gnE1 : XEdge := ⟨[lB [104]], [lB [115]], [], [], lB [114, 101, 118, 32, 115, 32, 62, 32, 104], lB []⟩
def gnM (k : Nat) : XMan := ⟨[gnE k, gnE1], []⟩
def gnL (t : List UInt8) : List XFile := [⟨lB [97], incl ++ [104, 10]⟩, ⟨lB [115], t⟩]
def gnG (k : Nat) : XGr := match newG (gnM k) with
  | .inr g => g
  | .inl _ => ⟨⟨[], []⟩, [], []⟩
theorem gn_zero (t : List UInt8) : evalM (gnM 0) (gnL t) [lB [111]] = .inl 13 := by kernel_rfl
theorem gn_new {k : Nat} (hk : k = 1 ∨ k = 2) : newG (gnM k) = .inr (gnG k) := by
  rcases hk with rfl | rfl <;> kernel_rfl
theorem gn_plan {k : Nat} (hk : k = 1 ∨ k = 2) : wrongB (gnG k) = false ∧ planL (gnG k) (targetsOr (gnG k) [lB [111]]) = .inr [1, 0] := by
  rcases hk with rfl | rfl <;> exact ⟨by kernel_rfl, by kernel_rfl⟩
theorem gn_miss {k : Nat} (hk : k = 1 ∨ k = 2) (t : List UInt8) : (targetsOr (gnG k) [lB [111]]).any (missB (gnG k) (gnL t)) = false ∧ (edgeOf (gnG k) 0).needs.any (missB (gnG k) (gnL t)) = false := by
  rcases hk with rfl | rfl <;> exact ⟨by kernel_rfl, by kernel_rfl⟩
theorem gn_step1 {k : Nat} (hk : k = 1 ∨ k = 2) (t : List UInt8) : evalStepU (gnG k) (gnL t) 1 [] = .inr [⟨lB [104], t.reverse⟩] := by
  rcases hk with rfl | rfl <;> kernel_rfl
def gnF (t : List UInt8) : List XFile := [⟨lB [97], incl ++ [104, 10]⟩, ⟨lB [115], t⟩, ⟨lB [104], t.reverse⟩]
def gnS : Shp := ⟨lB [105, 110, 99], [lB [97]], false, [lB [111]], lB [100]⟩
theorem gn_files {k : Nat} (hk : k = 1 ∨ k = 2) (t : List UInt8) : filesFor (gnG k) (gnL t) [⟨lB [104], t.reverse⟩] 0 = gnF t ∧ shapeM (edgeOf (gnG k) 0).cmd = some gnS ∧ oneB ((edgeOf (gnG k) 0).ins ++ (edgeOf (gnG k) 0).impl) (gnF t) [lB [97]] = some (incl ++ [104, 10]) := by
  rcases hk with rfl | rfl <;> exact ⟨by kernel_rfl, by kernel_rfl, by kernel_rfl⟩
theorem gn_puts (t : List UInt8) (ht : t.length ≤ 100) (h : ∀ c ∈ t, c ≠ 35) : putsD (gnF t) 11 (incl ++ [104, 10]) ⟨[], [], 0⟩ = some ⟨t.reverse, [lB [104]], 1⟩ := by
  have h1 : putsD (gnF t) 11 (incl ++ [104, 10]) ⟨[], [], 0⟩ = (putsD (gnF t) 10 t.reverse ⟨[], [lB [104]], 1⟩).bind (lnGo (putStep (gnF t) (putsD (gnF t) 10)) [] []) := by kernel_rfl
  have h2 : putsD (gnF t) 10 t.reverse ⟨[], [lB [104]], 1⟩ = some ⟨t.reverse, [lB [104]], 1⟩ := by
    rw [putsD, lnGo_plain _ _ t.reverse [] _ (fun c hc => h c (by simpa using hc)) (by simp; omega)]
    rfl
  rw [h1, h2, Option.bind_some, lnGo, putStep, inclN_none (fun c hc => by cases hc)]
  simp only [List.append_nil]
  rw [if_pos (by rw [List.length_reverse]; omega)]
def gnX (t : List UInt8) : XDish := ⟨[⟨lB [111], t.reverse⟩], false, lB [100], lB (printT (lB [111]) [lB [104]] ++ [10])⟩
theorem gn_cook {k : Nat} (hk : k = 1 ∨ k = 2) (t : List UInt8) (ht : t.length ≤ 100) (h : ∀ c ∈ t, c ≠ 35) : cookM (edgeOf (gnG k) 0).cmd ((edgeOf (gnG k) 0).ins ++ (edgeOf (gnG k) 0).impl) (gnF t) = some (gnX t) := by
  obtain ⟨_, hs, ho⟩ := gn_files hk t
  unfold cookM
  rw [hs]
  show cookR gnS _ _ = _
  have hr : runV gnS.args ((edgeOf (gnG k) 0).ins ++ (edgeOf (gnG k) 0).impl) (gnF t) (bL gnS.verb) = some (t.reverse, [lB [104]]) := by
    have hv : bL gnS.verb = [105, 110, 99] := rfl
    rw [hv]
    unfold runV
    rw [if_neg (by decide), if_neg (by decide), if_neg (by decide), if_neg (by decide), if_pos rfl]
    unfold incM
    rw [show gnS.args = [lB [97]] from rfl, ho, Option.bind_some, gn_puts t ht h]
    rfl
  unfold cookR
  rw [hr]
  simp only
  rw [if_pos (by rw [List.length_reverse]; omega)]
  have hd : (!(gnS.dep.toList == (⟨#[]⟩ : ByteArray).toList)) = true := by kernel_rfl
  rw [if_pos hd]
  rfl
theorem gn_eval {k : Nat} (hk : k = 1 ∨ k = 2) (t : List UInt8) (ht : t.length ≤ 100) (h : ∀ c ∈ t, c ≠ 35) : evalM (gnM k) (gnL t) [lB [111]] = .inr [⟨lB [104], t.reverse⟩, ⟨lB [111], t.reverse⟩] := by
  unfold evalM
  rw [gn_new hk]
  show evalG _ _ _ = _
  unfold evalG
  rw [(gn_plan hk).1, (gn_plan hk).2]
  simp only [Bool.false_eq_true, if_false]
  rw [(gn_miss hk t).1]
  simp only [Bool.false_eq_true, if_false]
  obtain ⟨xs, hx, h3⟩ := evalStep_of (gn_step1 hk t)
  rw [List.nil_append] at hx
  subst hx
  rw [evalGo, h3 (fun f hf => by rw [List.mem_singleton.1 hf]; show t.reverse.length ≤ _; rw [List.length_reverse]; omega)]
  simp only
  rw [evalGo]
  have h4 : evalStep (gnG k) (gnL t) 0 [⟨lB [104], t.reverse⟩] = .inr ([⟨lB [104], t.reverse⟩] ++ (gnX t).outs) := by
    unfold evalStep
    rw [(gn_miss hk t).2, (gn_files hk t).1, gn_cook hk t ht h]
    simp only [Bool.false_eq_true, if_false]
    rw [if_pos]
    rcases hk with rfl | rfl <;> kernel_rfl
  rw [h4]
  rfl
end Go.Ab.S16
set_option linter.unusedSimpArgs false
set_option linter.unusedVariables false
set_option linter.constructorNameAsVariable false
namespace Go.Ab.S16
open Go Go.Proofs Go.RowKit
/-- The edges, as the law makes them. -/
def gnD (k : Nat) : D := .agg [.slc [sD (lB [111])], .slc [sD (lB [97])], if k = 2 then .slc [sD (lB [104])] else .v (.slice none 0 0), if k = 1 then .slc [sD (lB [104])] else .v (.slice none 0 0), .v (.string (lB [105, 110, 99, 32, 97, 32, 62, 32, 111, 32, 58, 32, 100])), .v (.string (lB [100]))]
def gnD1 : D := .agg [.slc [sD (lB [104])], .slc [sD (lB [115])], .v (.slice none 0 0), .v (.slice none 0 0), .v (.string (lB [114, 101, 118, 32, 115, 32, 62, 32, 104])), .v (.string ⟨#[]⟩)]
theorem nn_gnD {k : Nat} (hk : k < 3) : nns [.agg [.slc [gnD k, gnD1], .v (.slice none 0 0)]] = [(gnM k).d] := by
  match k, hk with
  | 0, _ => rfl
  | 1, _ => rfl
  | 2, _ => rfl
theorem gn_ok {k : Nat} (hk : k < 3) (t : List UInt8) (ht : t.length ≤ 100) : EvOk (gnM k) (gnL t) [lB [111]] := by
  refine ⟨by show 2 ≤ 60; omega, fun e he => ?_, by show 0 < _; omega, by show 2 ≤ 400; omega, fun f hf => ?_, by show 1 < _; omega⟩
  · simp only [gnM, List.mem_cons, List.not_mem_nil, or_false] at he
    rcases he with rfl | rfl
    · match k, hk with
      | 0, _ => exact edgeOk _ _ _ _ _ _ (by decide) (by decide) (by decide) (by decide) (by decide) (by decide)
      | 1, _ => exact edgeOk _ _ _ _ _ _ (by decide) (by decide) (by decide) (by decide) (by decide) (by decide)
      | 2, _ => exact edgeOk _ _ _ _ _ _ (by decide) (by decide) (by decide) (by decide) (by decide) (by decide)
    · exact edgeOk _ _ _ _ _ _ (by decide) (by decide) (by decide) (by decide) (by decide) (by decide)
  · simp only [gnL, List.mem_cons, List.not_mem_nil, or_false] at hf
    rcases hf with rfl | rfl
    · exact ⟨by decide, by decide⟩
    · exact ⟨by show t.length < _; omega, by show 1 < _; omega⟩
theorem sgen_true (a : Nat) (ha : a < 256) (s : ByteArray) (σ : Store) :
    ACalls Tryz.prog 8 [.v (.int .u8 a), .v (.string s)] σ (fun e σ' => e = .ret (.v (.bool true)) ∧ σ' = σ) := by
  refine ACalls.still ?_ σ
  refine ACalls.forget (R := fun e _ => e = .ret (.v (.bool true))) ?_ fun e σ' h => ⟨[], SLe.nil _, h, rfl⟩
  have hwa : IntKind.i64.wrap (a : Int) = a := wrap_small a (by omega)
  have hra : ∀ xo yo, aBin Tryz.prog .rem 3 xo yo (.v (.int .i64 a)) (.v (.int .i64 3)) = .val True (.v (.int .i64 ((a % 3 : Nat) : Int))) := fun xo yo => by
    rw [bin_rem _ _ _ _ .i64 (a : Int) 3 (by omega), Int.tmod_eq_emod_of_nonneg (by omega)]
    rfl
  have hbl : (bL s).length = s.size := rfl
  refine ACalls.of_body Tryz.func8 rfl Tryz.ntmps8 (by simp) fun C hC => ?_
  refine Goes.seq ?_
  refine Goes.region [0, 1] fun K hK => ?_; simp (maxSteps := 4000000) only [go_sem, ↓reduceIte, reduceCtorEq, zqa, zqb, zqc, zqd, zqe, zqf, zqg, zqh, zqi, zqj, zqk, zql, zqm]
  refine hK _ _ ?_; clear hK K
  refine Goes.seq ?_
  refine Goes.seq ?_
  refine Goes.region [0, 1] fun K hK => ?_; simp (maxSteps := 4000000) only [go_sem, ↓reduceIte, reduceCtorEq, zqa, zqb, zqc, zqd, zqe, zqf, zqg, zqh, zqi, zqj, zqk, zql, zqm]
  refine hK _ _ ?_; clear hK K
  refine Goes.cond rfl (fun h14 => ?_) (fun h14 => ?_)
  · refine Goes.seq ?_
    refine Goes.region [] fun K hK => ?_; simp (maxSteps := 4000000) only [go_sem, ↓reduceIte, reduceCtorEq, zqa, zqb, zqc, zqd, zqe, zqf, zqg, zqh, zqi, zqj, zqk, zql, zqm]
    refine hK _ _ ?_; clear hK K
    refine Goes.ret hC Tryz.func8 (by simp [go_sem]) ?_
    simp only [go_sem, ↓reduceIte, reduceCtorEq, zqa, zqb, zqc, zqd, zqe, zqf, zqg, zqh, zqi, zqj, zqk, zql, zqm]
  · have hs : s.size ≤ 100 := by
      have h : (s.size : Int) ≤ 100 := by simpa using h14
      omega
    refine Goes.skip ?_
    refine Goes.seq ?_
    refine Goes.seq ?_
    refine Goes.region [0, 1] fun K hK => ?_; simp (maxSteps := 4000000) only [go_sem, ↓reduceIte, reduceCtorEq, zqa, zqb, zqc, zqd, zqe, zqf, zqg, zqh, zqi, zqj, zqk, zql, zqm]
    refine hK _ _ ?_; clear hK K
    refine Goes.block ?_
    refine Goes.rebase [0, 1, 5] ?_
    simp only [go_sem, ↓reduceIte, reduceCtorEq, zqa, zqb, zqc, zqd, zqe, zqf, zqg, zqh, zqi, zqj, zqk, zql, zqm]
    refine Goes.while (fun (i : Nat) env' σ'' => (i ≤ s.size ∧ ∀ c ∈ (bL s).take i, c ≠ 35) ∧ env' = [(0, .v (.int .u8 (a : Int))), (1, .v (.string s)), (5, .v (.int .i64 (i : Int)))] ∧ σ'' = []) (fun (i : Nat) => s.size - i) 0 ⟨⟨by omega, by simp⟩, rfl, rfl⟩ ?_
    rintro i env' σ'' ⟨⟨hi, hno⟩, rfl, rfl⟩ ih
    have ih1 := ih
    refine Goes.seq ?_
    refine Goes.seq ?_
    refine Goes.region [0, 1, 5] fun K hK => ?_; simp (maxSteps := 4000000) only [go_sem, ↓reduceIte, reduceCtorEq, zqa, zqb, zqc, zqd, zqe, zqf, zqg, zqh, zqi, zqj, zqk, zql, zqm]
    refine hK _ _ ?_; clear hK K
    refine Goes.cond rfl (fun h18 => ?_) (fun h18 => ?_)
    · have hlt : i < s.size := Int.ofNat_lt.1 (by simpa using h18)
      have hi0 : (0 : Int) ≤ (i : Int) := by omega
      have hi1 : (i : Int) < (s.size : Int) := by omega
      refine Goes.skip ?_
      refine Goes.seq ?_
      refine Goes.block ?_
      refine Goes.seq ?_
      refine Goes.region [0, 1, 5] fun K hK => ?_; simp (maxSteps := 4000000) only [go_sem, ↓reduceIte, reduceCtorEq, zqa, zqb, zqc, zqd, zqe, zqf, zqg, zqh, zqi, zqj, zqk, zql, zqm, hi0, hi1]
      refine hK _ _ ?_; clear hK K
      refine Goes.cond rfl (fun h24 => ?_) (fun h24 => ?_)
      · refine Goes.seq ?_
        refine Goes.region [] fun K hK => ?_; simp (maxSteps := 4000000) only [go_sem, ↓reduceIte, reduceCtorEq, zqa, zqb, zqc, zqd, zqe, zqf, zqg, zqh, zqi, zqj, zqk, zql, zqm]
        refine hK _ _ ?_; clear hK K
        refine Goes.ret hC Tryz.func8 (by simp [go_sem]) ?_
        simp only [go_sem, ↓reduceIte, reduceCtorEq, zqa, zqb, zqc, zqd, zqe, zqf, zqg, zqh, zqi, zqj, zqk, zql, zqm]
      · have hne : s.data.toList.getD i 0 ≠ 35 := fun e => by rw [e] at h24; cases h24
        refine Goes.skip ?_
        refine Goes.inBlock ?_
        refine Goes.region [0, 1, 5] fun K hK => ?_; simp (maxSteps := 4000000) only [go_sem, ↓reduceIte, reduceCtorEq, zqa, zqb, zqc, zqd, zqe, zqf, zqg, zqh, zqi, zqj, zqk, zql, zqm]
        refine hK _ _ ?_; clear hK K
        refine Goes.rebase [0, 1, 5] ?_
        simp only [go_sem, ↓reduceIte, reduceCtorEq, zqa, zqb, zqc, zqd, zqe, zqf, zqg, zqh, zqi, zqj, zqk, zql, zqm]
        rw [wrap_succ i (by omega)]
        refine ih (i + 1) _ _ ⟨⟨by omega, fun c hc => ?_⟩, rfl, rfl⟩ (by omega)
        have hlt2 : i < (bL s).length := hlt
        rw [List.take_succ_eq_append_getElem hlt2] at hc
        rcases List.mem_append.1 hc with hc | hc
        · exact hno c hc
        · rw [List.mem_singleton.1 hc]
          rw [List.getD_eq_getElem?_getD, List.getElem?_eq_getElem (show i < s.data.toList.length from hlt)] at hne
          exact hne
    · have hie : i = s.size := by
        have h : (s.size : Int) ≤ i := by simpa using h18
        omega
      subst hie
      have hno2 : ∀ c ∈ bL s, c ≠ 35 := fun c hc => hno c (by rw [List.take_of_length_le (by rw [hbl]; exact Nat.le_refl _)]; exact hc)
      generalize ht : bL s = t at hno2 hbl
      have hrow : s.data.toList.map bD = t.map bD := by rw [← ht]; rfl
      refine Goes.exit rfl ?_
      refine Goes.seq ?_
      refine Goes.regionOpen [0, 1] ?_
      refine Goes.opBytes (e8 := 5) (at0 _ _) rfl (at1 _ _ _) rfl rfl rfl rfl rfl dstB_lit dstB_lit (by kernel_rfl) (by kernel_rfl) ?_
      simp only [go_sem, ↓reduceIte, reduceCtorEq, zqa, zqb, zqc, zqd, zqe, zqf, zqg, zqh, zqi, zqj, zqk, zql, zqm]
      refine ⟨by decide, fun b1 => ?_⟩
      refine Goes.rebase [0, 1, 26] ?_
      simp only [go_sem, ↓reduceIte, reduceCtorEq, zqa, zqb, zqc, zqd, zqe, zqf, zqg, zqh, zqi, zqj, zqk, zql, zqm]
      refine Goes.le (ELe.refl _) (σ' := cellsOf (some b1) 1 ((incl ++ [104, 10]).map bD) ++ []) (sle_cons2 (SLe.nil _)) ?_
      refine pubSlot2 26 (o := some b1) (sz := 1) (xs := (incl ++ [104, 10]).map bD) (ρ := []) ?_ ⟨fun c hc => rfl, nofun⟩ (fun c hc => PubOK.nil c) (fun c hc p hp hk => ?_) ?_
      · rfl
      · simp only [List.mem_cons, List.not_mem_nil, or_false] at hp
        rcases hp with rfl | rfl | rfl <;> first | rfl | exact absurd rfl hk
      simp only [go_sem, ↓reduceIte, reduceCtorEq, zqa, zqb, zqc, zqd, zqe, zqf, zqg, zqh, zqi, zqj, zqk, zql, zqm]
      refine Goes.op (at2 _ _ _ _) rfl nofun dstB_lit ?_
      simp only [go_sem, ↓reduceIte, reduceCtorEq, zqa, zqb, zqc, zqd, zqe, zqf, zqg, zqh, zqi, zqj, zqk, zql, zqm]
      refine Goes.op (at3 _ _ _ _ _) rfl nofun dstB_lit ?_
      simp only [go_sem, ↓reduceIte, reduceCtorEq, zqa, zqb, zqc, zqd, zqe, zqf, zqg, zqh, zqi, zqj, zqk, zql, zqm]
      refine Goes.op (at4 _ _ _ _ _ _) rfl nofun dstB_lit ?_
      simp only [go_sem, ↓reduceIte, reduceCtorEq, zqa, zqb, zqc, zqd, zqe, zqf, zqg, zqh, zqi, zqj, zqk, zql, zqm]
      refine ⟨by omega, fun b2 => ?_⟩
      refine Goes.rebase [0, 1, 27, 29] ?_
      simp only [go_sem, ↓reduceIte, reduceCtorEq, zqa, zqb, zqc, zqd, zqe, zqf, zqg, zqh, zqi, zqj, zqk, zql, zqm]
      rw [hrow]
      refine Goes.le (ELe.refl _) (σ' := cellsOf (some b2) 1 (t.map bD) ++ []) (sle_cons2 (SLe.nil _)) ?_
      refine pubSlot2 29 (o := some b2) (xs := t.map bD) (by rw [List.length_map, hbl]; rfl) ⟨fun c hc => rfl, nofun⟩ (fun c hc => PubOK.nil c) (fun c hc p hp hk => ?_) ?_
      · simp only [List.mem_cons, List.not_mem_nil, or_false] at hp
        rcases hp with rfl | rfl | rfl | rfl <;> first | rfl | exact absurd rfl hk
      simp only [go_sem, ↓reduceIte, reduceCtorEq, zqa, zqb, zqc, zqd, zqe, zqf, zqg, zqh, zqi, zqj, zqk, zql, zqm]
      refine Goes.op (at5 _ _ _ _ _ _ _) rfl nofun dstB_lit ?_
      simp only [go_sem, ↓reduceIte, reduceCtorEq, zqa, zqb, zqc, zqd, zqe, zqf, zqg, zqh, zqi, zqj, zqk, zql, zqm]
      refine Goes.op (at6 _ _ _ _ _ _ _ _) rfl nofun dstB_lit ?_
      simp only [go_sem, ↓reduceIte, reduceCtorEq, zqa, zqb, zqc, zqd, zqe, zqf, zqg, zqh, zqi, zqj, zqk, zql, zqm]
      refine ⟨⟨by decide, by decide⟩, fun b3 => ?_⟩
      refine Goes.rebase [0, 1, 31] ?_
      simp only [go_sem, ↓reduceIte, reduceCtorEq, zqa, zqb, zqc, zqd, zqe, zqf, zqg, zqh, zqi, zqj, zqk, zql, zqm]
      refine Goes.le (ELe.refl _) (σ' := cellsOf (some b3) 2 ((gnL t).map XFile.d) ++ []) (sle_cons2 (SLe.nil _)) ?_
      refine pubSlot2 31 (o := some b3) (xs := (gnL t).map XFile.d) rfl ⟨fun c hc => rfl, nofun⟩ (fun c hc => PubOK.nil c) (fun c hc p hp hk => ?_) ?_
      · simp only [List.mem_cons, List.not_mem_nil, or_false] at hp
        rcases hp with rfl | rfl | rfl <;> first | rfl | exact absurd rfl hk
      simp only [go_sem, ↓reduceIte, reduceCtorEq, zqa, zqb, zqc, zqd, zqe, zqf, zqg, zqh, zqi, zqj, zqk, zql, zqm]
      refine Goes.op (at7 _ _ _ _ _ _ _ _ _) rfl nofun dstB_lit ?_
      simp only [go_sem, ↓reduceIte, reduceCtorEq, zqa, zqb, zqc, zqd, zqe, zqf, zqg, zqh, zqi, zqj, zqk, zql, zqm]
      refine Goes.regionEnd ?_
      refine Goes.seq ?_
      refine Goes.regionM [0, 1, 6] [32, 33, 35, 36] fun K hK => ?_; simp (maxSteps := 4000000) only [go_sem, ↓reduceIte, reduceCtorEq, zqa, zqb, zqc, zqd, zqe, zqf, zqg, zqh, zqi, zqj, zqk, zql, zqm]
      refine ⟨by decide, by decide, by decide, by decide, ⟨by decide, by decide⟩, fun bE bm hbm => ?_⟩
      have hne : bm ≠ bE := fun e => by subst e; rw [sget_self] at hbm; cases hbm
      refine hK _ _ ?_; clear hK K
      refine Goes.seq ?_
      refine Goes.region [0, 1, 6, 7] fun K hK => ?_; simp (maxSteps := 4000000) only [go_sem, ↓reduceIte, reduceCtorEq, zqa, zqb, zqc, zqd, zqe, zqf, zqg, zqh, zqi, zqj, zqk, zql, zqm, hwa, hra]
      refine hK _ _ ?_; clear hK K
      have hk3 : a % 3 < 3 := Nat.mod_lt _ (by decide)
      generalize a % 3 = k at hk3 hra ⊢
      refine Goes.seq ?_
      refine Goes.seq ?_
      refine Goes.region [1, 6, 7, 8] fun K hK => ?_; simp (maxSteps := 4000000) only [go_sem, ↓reduceIte, reduceCtorEq, zqa, zqb, zqc, zqd, zqe, zqf, zqg, zqh, zqi, zqj, zqk, zql, zqm]
      refine hK _ _ ?_; clear hK K
      refine Goes.join (fun env' σ' => env' = [(1, .v (.string s)), (6, .slc ((gnL t).map XFile.d)), (7, .ptr bm 2 0 0), (8, .v (.int .i64 (k : Int)))] ∧ σ' = [(bm, AObj.arr 2 [.agg [.own (some bE) 6 2, .v (.slice none 0 0)]]), (bE, AObj.arr 6 [gnD (if k = 1 then 1 else 0), gnD1])]) (fun k1 hk1 => ?_) ?_
      · refine Goes.cond rfl (fun h44 => ?_) (fun h44 => ?_)
        · have hk1 : k = 1 := Int.ofNat_inj.1 (by simpa using h44)
          subst hk1
          refine Goes.regionM [1, 6, 7, 8] [47] fun K hK => ?_; simp (maxSteps := 4000000) only [go_sem, ↓reduceIte, reduceCtorEq, zqa, zqb, zqc, zqd, zqe, zqf, zqg, zqh, zqi, zqj, zqk, zql, zqm, hne, hne.symm]
          refine ⟨by decide, by decide, ?_⟩
          refine hK _ _ ?_; clear hK K
          refine Goes.rebase [1, 6, 7, 8] ?_
          simp only [go_sem, ↓reduceIte, reduceCtorEq, zqa, zqb, zqc, zqd, zqe, zqf, zqg, zqh, zqi, zqj, zqk, zql, zqm]
          exact hk1 _ _ ⟨rfl, rfl⟩
        · have hk1n : k ≠ 1 := fun e => by rw [e] at h44; cases h44
          refine Goes.skip ?_
          refine Goes.rebase [1, 6, 7, 8] ?_
          simp only [go_sem, ↓reduceIte, reduceCtorEq, zqa, zqb, zqc, zqd, zqe, zqf, zqg, zqh, zqi, zqj, zqk, zql, zqm]
          exact hk1 _ _ ⟨rfl, by rw [if_neg hk1n]; rfl⟩
      rintro env' σ' ⟨rfl, rfl⟩
      refine Goes.seq ?_
      refine Goes.seq ?_
      refine Goes.region [1, 6, 7, 8] fun K hK => ?_; simp (maxSteps := 4000000) only [go_sem, ↓reduceIte, reduceCtorEq, zqa, zqb, zqc, zqd, zqe, zqf, zqg, zqh, zqi, zqj, zqk, zql, zqm]
      refine hK _ _ ?_; clear hK K
      refine Goes.join (fun env' σ' => env' = [(1, .v (.string s)), (6, .slc ((gnL t).map XFile.d)), (7, .ptr bm 2 0 0), (8, .v (.int .i64 (k : Int)))] ∧ σ' = [(bm, AObj.arr 2 [.agg [.own (some bE) 6 2, .v (.slice none 0 0)]]), (bE, AObj.arr 6 [gnD k, gnD1])]) (fun k1 hk1 => ?_) ?_
      · refine Goes.cond rfl (fun h51 => ?_) (fun h51 => ?_)
        · have hk2 : k = 2 := Int.ofNat_inj.1 (by simpa using h51)
          subst hk2
          change Goes C _ _ [(bm, _), (bE, AObj.arr 6 [.agg [.slc [sD (lB [111])], .slc [sD (lB [97])], .v (.slice none 0 0), .v (.slice none 0 0), .v (.string (lB [105, 110, 99, 32, 97, 32, 62, 32, 111, 32, 58, 32, 100])), .v (.string (lB [100]))], gnD1])]
          refine Goes.regionM [1, 6, 7, 8] [54] fun K hK => ?_; simp (maxSteps := 4000000) only [go_sem, ↓reduceIte, reduceCtorEq, zqa, zqb, zqc, zqd, zqe, zqf, zqg, zqh, zqi, zqj, zqk, zql, zqm, hne, hne.symm]
          refine ⟨by decide, by decide, ?_⟩
          refine hK _ _ ?_; clear hK K
          refine Goes.rebase [1, 6, 7, 8] ?_
          simp only [go_sem, ↓reduceIte, reduceCtorEq, zqa, zqb, zqc, zqd, zqe, zqf, zqg, zqh, zqi, zqj, zqk, zql, zqm]
          exact hk1 _ _ ⟨rfl, rfl⟩
        · have hk2n : k ≠ 2 := fun e => by rw [e] at h51; cases h51
          refine Goes.skip ?_
          refine Goes.rebase [1, 6, 7, 8] ?_
          simp only [go_sem, ↓reduceIte, reduceCtorEq, zqa, zqb, zqc, zqd, zqe, zqf, zqg, zqh, zqi, zqj, zqk, zql, zqm]
          exact hk1 _ _ ⟨rfl, by
            rcases (show k = 0 ∨ k = 1 from by omega) with rfl | rfl <;> rfl⟩
      rintro env' σ' ⟨rfl, rfl⟩
      refine Goes.seq ?_
      refine Goes.publish bE (xs := [gnD k, gnD1]) (sz := 6) (by rw [sget_cons, if_neg hne.symm, sget_self]) ?_
      have hep : epub bE 6 [gnD k, gnD1] [(1, .v (.string s)), (6, .slc ((gnL t).map XFile.d)), (7, .ptr bm 2 0 0), (8, .v (.int .i64 (k : Int)))] = [(1, .v (.string s)), (6, .slc ((gnL t).map XFile.d)), (7, .ptr bm 2 0 0), (8, .v (.int .i64 (k : Int)))] := rfl
      have hsp : spub bE 6 [gnD k, gnD1] [(bm, AObj.arr 2 [.agg [.own (some bE) 6 2, .v (.slice none 0 0)]]), (bE, AObj.arr 6 [gnD k, gnD1])] = [(bm, AObj.arr 2 [.agg [.slc [gnD k, gnD1], .v (.slice none 0 0)]])] := by
        simp only [spub, if_true, if_neg hne.symm, AObj.pub, List.map_cons, List.map_nil, D.pub, pubs]
        rw [if_pos (show True ∧ True ∧ 2 ≤ [gnD k, gnD1].length from ⟨trivial, trivial, Nat.le_refl _⟩)]
        rfl
      rw [hep, hsp]
      refine Goes.regionM [1, 6, 7, 8] [60] fun K hK => ?_; simp (maxSteps := 4000000) only [go_sem, ↓reduceIte, reduceCtorEq, zqa, zqb, zqc, zqd, zqe, zqf, zqg, zqh, zqi, zqj, zqk, zql, zqm]
      refine ⟨by decide, ?_⟩
      refine ⟨_, Tryz.call12, ((eval_calls (gnM k) (gnL t) [lB [111]] (gn_ok hk3 t (by omega)) _).nn (by show [nn (.agg [.slc [gnD k, gnD1], .v (.slice none 0 0)]), .slc (nns ((gnL t).map XFile.d)), .slc [_]] = _; rw [nns_file, List.cons.inj (nn_gnD hk3) |>.1]; rfl)).mono ?_⟩
      rintro e σ1 ⟨rfl, rfl⟩
      simp only [go_sem, ↓reduceIte, reduceCtorEq, zqa, zqb, zqc, zqd, zqe, zqf, zqg, zqh, zqi, zqj, zqk, zql, zqm, eD]
      refine hK _ _ ?_; clear hK K
      refine Goes.seq ?_
      refine Goes.seq ?_
      rcases (show k = 0 ∨ (k = 1 ∨ k = 2) from by omega) with hk0 | hk12
      · subst hk0
        rw [gn_zero t]
        simp only [resF, resE, List.map_nil]
        refine Goes.region [1, 8, 9, 10] fun K hK => ?_; simp (maxSteps := 4000000) only [go_sem, ↓reduceIte, reduceCtorEq, zqa, zqb, zqc, zqd, zqe, zqf, zqg, zqh, zqi, zqj, zqk, zql, zqm]
        refine hK _ _ ?_; clear hK K
        refine Goes.condT rfl ?_
        refine Goes.seq ?_
        refine Goes.region [9, 10] fun K hK => ?_; simp (maxSteps := 4000000) only [go_sem, ↓reduceIte, reduceCtorEq, zqa, zqb, zqc, zqd, zqe, zqf, zqg, zqh, zqi, zqj, zqk, zql, zqm, List.length_nil, BEq.rfl]
        refine ⟨_, Tryz.call17, (awake_calls _).mono ?_⟩
        rintro e σ1 ⟨rfl, rfl⟩
        simp only [go_sem, ↓reduceIte, reduceCtorEq, zqa, zqb, zqc, zqd, zqe, zqf, zqg, zqh, zqi, zqj, zqk, zql, zqm]
        refine hK _ _ ?_; clear hK K
        refine Goes.ret hC Tryz.func8 (by simp [go_sem]) ?_
        simp only [go_sem, ↓reduceIte, reduceCtorEq, zqa, zqb, zqc, zqd, zqe, zqf, zqg, zqh, zqi, zqj, zqk, zql, zqm]
      · have hkz : (((k : Nat) : Int) == 0) = false := by
          rcases hk12 with rfl | rfl <;> rfl
        rw [gn_eval hk12 t (by omega) hno2]
        simp only [resF, resE]
        have hx : ([⟨lB [104], t.reverse⟩, ⟨lB [111], t.reverse⟩] : List XFile).map XFile.d = [.agg [.v (.string ⟨#[104]⟩), .slc (t.reverse.map bD)], .agg [.v (.string ⟨#[111]⟩), .slc (t.reverse.map bD)]] := rfl
        rw [hx]
        have hrl : (t.reverse.map bD).length = s.size := by rw [List.length_map, List.length_reverse, hbl]
        have h00 : (((0 : Nat) : Int) != 0) = false := rfl
        have h22 : (((2 : Nat) : Int) != 2) = false := rfl
        refine Goes.region [1, 8, 9, 10] fun K hK => ?_; simp (maxSteps := 4000000) only [go_sem, ↓reduceIte, reduceCtorEq, zqa, zqb, zqc, zqd, zqe, zqf, zqg, zqh, zqi, zqj, zqk, zql, zqm, hkz]
        refine hK _ _ ?_; clear hK K
        refine Goes.condF rfl ?_
        refine Goes.skip ?_
        refine Goes.seq ?_
        refine Goes.seq ?_
        refine Goes.region [1, 9, 10] fun K hK => ?_; simp (maxSteps := 4000000) only [go_sem, ↓reduceIte, reduceCtorEq, zqa, zqb, zqc, zqd, zqe, zqf, zqg, zqh, zqi, zqj, zqk, zql, zqm, h00, h22, hrl, bne_self_eq_false, BEq.rfl, Bool.not_true]
        refine ⟨by decide, by decide, by decide, ?_⟩
        refine hK _ _ ?_; clear hK K
        refine Goes.condF rfl ?_
        refine Goes.skip ?_
        refine Goes.seq ?_
        refine Goes.seq ?_
        refine Goes.region [1, 9] fun K hK => ?_; simp (maxSteps := 4000000) only [go_sem, ↓reduceIte, reduceCtorEq, zqa, zqb, zqc, zqd, zqe, zqf, zqg, zqh, zqi, zqj, zqk, zql, zqm]
        refine hK _ _ ?_; clear hK K
        refine Goes.block ?_
        refine Goes.rebase [1, 9, 11] ?_
        simp only [go_sem, ↓reduceIte, reduceCtorEq, zqa, zqb, zqc, zqd, zqe, zqf, zqg, zqh, zqi, zqj, zqk, zql, zqm]
        refine Goes.while (fun (i : Nat) env' σ'' => (i ≤ s.size) ∧ env' = [(1, .v (.string s)), (9, .slc [.agg [.v (.string ⟨#[104]⟩), .slc (t.reverse.map bD)], .agg [.v (.string ⟨#[111]⟩), .slc (t.reverse.map bD)]]), (11, .v (.int .i64 (i : Int)))] ∧ σ'' = [(bm, AObj.arr 2 [.agg [.slc [gnD k, gnD1], .v (.slice none 0 0)]])]) (fun (i : Nat) => s.size - i) 0 ⟨Nat.zero_le _, rfl, rfl⟩ ?_
        rintro i env' σ'' ⟨hi, rfl, rfl⟩ ih
        have ih2 := ih
        refine Goes.seq ?_
        refine Goes.seq ?_
        refine Goes.region [1, 9, 11] fun K hK => ?_; simp (maxSteps := 4000000) only [go_sem, ↓reduceIte, reduceCtorEq, zqa, zqb, zqc, zqd, zqe, zqf, zqg, zqh, zqi, zqj, zqk, zql, zqm]
        refine hK _ _ ?_; clear hK K
        refine Goes.cond rfl (fun h110 => ?_) (fun h110 => ?_)
        · have hlt : i < s.size := Int.ofNat_lt.1 (by simpa using h110)
          have hi0 : (0 : Int) ≤ (i : Int) := by omega
          have hi1 : (i : Int) < (s.size : Int) := by omega
          have hs1 : IntKind.i64.wrap ((s.size : Int) - 1) = ((s.size - 1 : Nat) : Int) := by
            rw [show (s.size : Int) - 1 = ((s.size - 1 : Nat) : Int) from by omega]
            exact wrap_small _ (by omega)
          have hs2 : IntKind.i64.wrap (((s.size - 1 : Nat) : Int) - (i : Int)) = ((s.size - 1 - i : Nat) : Int) := by
            rw [show ((s.size - 1 : Nat) : Int) - (i : Int) = ((s.size - 1 - i : Nat) : Int) from by omega]
            exact wrap_small _ (by omega)
          have h12 : (1 : Int) < ((2 : Nat) : Int) := by decide
          have hq0 : (0 : Int) ≤ ((s.size - 1 - i : Nat) : Int) := by omega
          have hq1 : ((s.size - 1 - i : Nat) : Int) < (s.size : Int) := by omega
          have hrv : i < t.reverse.length := by rw [List.length_reverse, hbl]; exact hlt
          have hg1 := getD_map_lt bD t.reverse i hrv
          have hval : t.reverse[i]'hrv = s.data.toList.getD (s.size - 1 - i) 0 := by
            rw [List.getElem_reverse]
            subst ht
            rw [List.getD_eq_getElem?_getD, List.getElem?_eq_getElem (show s.size - 1 - i < s.data.toList.length from by show _ < s.size; omega)]
            rfl
          rw [hval, bD] at hg1
          refine Goes.skip ?_
          refine Goes.seq ?_
          refine Goes.block ?_
          refine Goes.seq ?_
          refine Goes.draw [1, 9, 11] [] [] [] [(0, true), (1, true), (2, true), (3, true), (4, true), (5, true), (6, true), (7, true), (8, true), (9, true), (10, true), (11, true), (12, true), (13, true), (14, true)] (by kernel_rfl) (by decide) (by kernel_rfl) fun K hK => ?_; simp (maxSteps := 4000000) only [go_sem, ↓reduceIte, reduceCtorEq, zqa, zqb, zqc, zqd, zqe, zqf, zqg, zqh, zqi, zqj, zqk, zql, zqm, h12, hrl, hi0, hi1, hs1, hs2, hq0, hq1, hg1, bne_self_eq_false]
          refine hK _ _ ?_; clear hK K
          refine Goes.condF rfl ?_
          refine Goes.skip ?_
          refine Goes.inBlock ?_
          refine Goes.region [1, 9, 11] fun K hK => ?_; simp (maxSteps := 4000000) only [go_sem, ↓reduceIte, reduceCtorEq, zqa, zqb, zqc, zqd, zqe, zqf, zqg, zqh, zqi, zqj, zqk, zql, zqm]
          refine hK _ _ ?_; clear hK K
          refine Goes.rebase [1, 9, 11] ?_
          simp only [go_sem, ↓reduceIte, reduceCtorEq, zqa, zqb, zqc, zqd, zqe, zqf, zqg, zqh, zqi, zqj, zqk, zql, zqm]
          rw [wrap_succ i (by omega)]
          exact ih (i + 1) _ _ ⟨by omega, rfl, rfl⟩ (by omega)
        · refine Goes.exit rfl ?_
          refine Goes.seq ?_
          refine Goes.region [] fun K hK => ?_; simp (maxSteps := 4000000) only [go_sem, ↓reduceIte, reduceCtorEq, zqa, zqb, zqc, zqd, zqe, zqf, zqg, zqh, zqi, zqj, zqk, zql, zqm]
          refine ⟨_, Tryz.call17, (awake_calls _).mono ?_⟩
          rintro e σ1 ⟨rfl, rfl⟩
          simp only [go_sem, ↓reduceIte, reduceCtorEq, zqa, zqb, zqc, zqd, zqe, zqf, zqg, zqh, zqi, zqj, zqk, zql, zqm]
          refine hK _ _ ?_; clear hK K
          refine Goes.ret hC Tryz.func8 (by simp [go_sem]) ?_
          simp only [go_sem, ↓reduceIte, reduceCtorEq, zqa, zqb, zqc, zqd, zqe, zqf, zqg, zqh, zqi, zqj, zqk, zql, zqm]
end Go.Ab.S16
namespace Go.Ab.S16
open Go Go.Proofs
theorem sgen_law (xs : List D) (h : WTvs [.int .u8, .str] xs) : ACalls Tryz.prog 8 xs [] (fun e _ => e = .ret (.v (.bool true))) := by
  obtain ⟨d, ds, rfl, h1, d2, ds2, rfl, h2, h3⟩ := h
  unfold WTvs at h3
  subst h3
  obtain ⟨a, ha, rfl⟩ := wt_u8 h1
  obtain ⟨s, hs⟩ := wt_str (h2.1 rfl)
  cases hs
  exact (sgen_true a ha s []).mono fun e σ' h => h.1
end Go.Ab.S16
set_option linter.unusedSimpArgs false
set_option linter.unusedVariables false
set_option linter.constructorNameAsVariable false
namespace Go.Proofs.YticjnnmnjfpopaaGreatDoor
open Go.ChangeShapes Go.WideShapes Go.ChangeAt Go.RowKit Go.Ab
theorem own_knob : ownKnob Tryz.prog.godebug = none := by kernel_rfl
theorem laid_out : laidOutB Tryz.prog = true := by kernel_rfl
theorem cell_lt {w : World} {a : Addr} {v : Value} (h : w.cell? a = some v) : a.block < w.heap.size := by
  unfold World.cell? at h
  split at h
  · rename_i hb; exact (Array.getElem?_eq_some_iff.1 hb).1
  · cases h
/-- What the rows list. -/
def LL : List (String × DataW Unit) := Rows.scratchFitsRow.laid
theorem laid_plain : (LL.all fun x => x.2.handleName?.isNone) = true := by kernel_rfl
theorem laid_met (os : Os) (args : Array Value) : laidMetH Tryz.prog LL ((World.laidAll Tryz.prog os LL).forCall (fun _ _ => 0) ⟨#[], args, []⟩).memory := by
  rw [MakeChecks.laidMetH_plain _ _ _ laid_plain]
  exact laidMet_laidAll _ (by kernel_rfl) (by kernel_rfl)
theorem laid_shaped (os : Os) (args : Array Value) : ((World.laidAll Tryz.prog os LL).forCall (fun _ _ => 0) ⟨#[], args, []⟩).Shaped Tryz.prog :=
  World.shaped_of_ZipB (by kernel_rfl) (by kernel_rfl)
theorem laid_gok {W : World} (h : laidMetH Tryz.prog LL W) : GOk W (fun b => b < W.heap.size) := by
  rw [MakeChecks.laidMetH_plain _ _ _ laid_plain] at h
  intro g vs hg
  unfold glaid at hg
  simp only [glook] at hg
  split at hg
  · rename_i hgg
    subst hgg
    simp only [Option.some.injEq] at hg
    obtain ⟨g', t', cs, fuel, p, hg', ht', hv, hd⟩ := Lib.laidMet.reads h (show ("math/bits.deBruijn64tab", Rows.laid_math_bits_deBruijn64tab) ∈ LL from .tail _ (.head _))
    have hgn : Tryz.prog.globalNamed "math/bits.deBruijn64tab" = some 3 := by kernel_rfl
    have hty : (Tryz.prog.globals[3]?).map (·.type) = some 265 := by kernel_rfl
    obtain rfl := Option.some.inj (hgn.symm.trans hg')
    obtain rfl := Option.some.inj (hty.symm.trans ht')
    have hcs := Lib.cells_of_tab (n := 64) (k := .u8) (e := 5) (zs := vs.filterMap fun v => match v with | .int _ z => some z | _ => none) (by kernel_rfl) (by kernel_rfl) (by kernel_rfl) (by kernel_rfl) (by
      subst hg; exact hd)
    have hvs : (vs.filterMap fun v => match v with | .int _ z => some z | _ => none).map (fun z => Value.int .u8 z) = vs := by subst hg; rfl
    rw [hvs] at hcs
    have hcell : ∀ k x, vs[k]? = some x → W.cell? ⟨3, k, none⟩ = some x := fun k x hx => by
      rw [World.var?_cell hgn hv k]
      rw [← hcs] at hx
      simpa using hx
    have h0 : W.cell? ⟨3, 0, none⟩ = some (.int .u8 0) := hcell 0 _ (by subst hg; rfl)
    exact ⟨cell_lt h0, fun k x hx => by rw [Nat.zero_add]; exact hcell k x hx⟩
  · cases hg
end Go.Proofs.YticjnnmnjfpopaaGreatDoor
