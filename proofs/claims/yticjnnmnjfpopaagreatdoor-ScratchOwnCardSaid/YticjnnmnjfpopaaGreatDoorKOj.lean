/- A part of a proof about the given program: the abstract machine, what functions compute, laid in few texts. -/
import Derived.Test.YticjnnmnjfpopaaGreatDoorKOi
import Derived.Test.YticjnnmnjfpopaaGreatDoorTie
import Derived.Test.YticjnnmnjfpopaaGreatDoorCards
import Derived.ProofKit
import Derived.LaidMore
import Derived.OpenShut
import Derived.Lay
import Derived.SevenTiedAt
import Derived.Stop.Joined
import Derived.Lib.LaidU8
open Nat renaming reduceEqDiff → zqa, reduceBEq → zqb, reduceLT → zqe, reduceLeDiff → zqf, reduceAdd → zqg, reduceSub → zqh, reduceMul → zqi
open Int renaming reduceBEq → zqc, reduceBNe → zqd, reduceToNat → zqj, reduceEq → zqk, reduceLT → zql, reduceLE → zqm
set_option linter.unusedSimpArgs false
set_option linter.unusedVariables false
set_option linter.constructorNameAsVariable false
namespace Go.Ab.S16
open Go Go.Proofs Go.RowKit
theorem spans_len (p : Nat → Bool) (s : ByteArray) : ∀ (f pos : Nat) (st : Option Nat) (acc : List (Nat × Nat)), (Lib.spansFromP p s f pos st acc).1.length ≤ acc.length + f
  | 0, _, _, _ => Nat.le_refl _
  | f + 1, pos, st, acc => by
    unfold Lib.spansFromP
    split
    · split
      · split
        · refine Nat.le_trans (spans_len p s f _ _ _) ?_
          rw [List.length_append]
          simp; omega
        · exact Nat.le_trans (spans_len p s f _ _ _) (by omega)
      · split
        · exact Nat.le_trans (spans_len p s f _ _ _) (by omega)
        · exact Nat.le_trans (spans_len p s f _ _ _) (by omega)
    · exact Nat.le_add_right _ _
theorem words_len (s : ByteArray) : (wordsM s).length ≤ s.size + 1 := by
  unfold wordsM Lib.goFieldsP Lib.spansOfP
  rw [List.length_map]
  have := spans_len (fun x => x == 32) s s.size 0 none []
  generalize Lib.spansFromP (fun x => x == 32) s s.size 0 none [] = r at this
  unfold Lib.closeSpans
  split
  · rw [List.length_append]; simp at this ⊢; omega
  · simp at this; omega
theorem words_size (s : ByteArray) : ∀ w ∈ wordsM s, w.size ≤ s.size := fun w hw => by
  unfold wordsM Lib.goFieldsP at hw
  obtain ⟨x, _, rfl⟩ := List.mem_map.1 hw
  rw [ByteArray.size_extract]
  omega
theorem outsM_sub {ws outs : List ByteArray} {dep : ByteArray} (h : outsM ws = some (outs, dep)) : outs.length ≤ ws.length := by
  have key : ∀ {ws outs : List ByteArray} {d dep : ByteArray}, chkO ws d = some (outs, dep) → outs = ws := fun {ws outs d dep} h => by
    unfold chkO at h
    split at h
    · cases h; rfl
    · cases h
  unfold outsM at h
  split at h
  · split at h
    · rw [key h, List.length_take]; omega
    · cases h
  · rw [key h]; exact Nat.le_refl _
theorem shapeM_sub {cmd : ByteArray} {x : Shp} (h : shapeM cmd = some x) : x.args.length ≤ (wordsM cmd).length ∧ (∀ w ∈ x.args, w ∈ wordsM cmd) ∧ x.outs.length ≤ (wordsM cmd).length := by
  have key : ∀ {o : Bool} {ws : List ByteArray}, shapeW o ws = some x → x.args.length ≤ ws.length ∧ (∀ w ∈ x.args, w ∈ ws) ∧ x.outs.length ≤ ws.length := fun {o ws} h => by
    unfold shapeW at h
    split at h
    · split at h
      · split at h
        · rename_i ho
          split at h
          · cases h
            have := outsM_sub ho
            refine ⟨?_, fun w hw => List.mem_of_mem_take (List.mem_of_mem_drop hw), ?_⟩
            · simp only [List.length_drop, List.length_take]; omega
            · rw [List.length_drop] at this; exact Nat.le_trans this (by omega)
          · cases h
        · cases h
      · cases h
    · cases h
  unfold shapeM at h
  split at h
  · obtain ⟨h1, h2, h3⟩ := key h
    rw [List.length_drop] at h1 h3
    exact ⟨by omega, fun w hw => List.mem_of_mem_drop (h2 w hw), by omega⟩
  · exact key h
theorem join_len (c : UInt8) (B : Nat) : ∀ l : List (List UInt8), (∀ x ∈ l, x.length ≤ B) → (Lib.join l [c]).length ≤ l.length * (B + 1)
  | [], _ => by simp [Lib.join_nil]
  | x :: r, h => by
    have h1 := lenP_join (x :: r) c
    have h2 : lenP (x :: r) ≤ (x :: r).length * (B + 1) := by
      have : ∀ l : List (List UInt8), (∀ x ∈ l, x.length ≤ B) → lenP l ≤ l.length * (B + 1) := by
        intro l
        induction l with
        | nil => intro _; simp [lenP]
        | cons y l ih =>
          intro hl
          have a := hl y (by simp)
          have b := ih fun z hz => hl z (by simp [hz])
          unfold lenP at b ⊢
          rw [List.map_cons, List.sum_cons, List.length_cons, Nat.succ_mul]
          omega
      exact this _ h
    exact Nat.le_trans h1 h2
theorem cmdOk (cmd : ByteArray) (h : cmd.size ≤ 20000) : CmdOk cmd := by
  have h1 := words_len cmd
  refine ⟨by omega, by omega, fun w hw => by have := words_size cmd w hw; omega, fun x hx => ?_⟩
  obtain ⟨a1, a2, a3⟩ := shapeM_sub hx
  refine ⟨by omega, ?_, by omega⟩
  have := join_len 32 20000 (x.args.map (·.data.toList)) (fun y hy => by
    obtain ⟨w, hw, rfl⟩ := List.mem_map.1 hy
    have := words_size cmd w (a2 w hw)
    have hs : w.data.toList.length = w.size := by simp
    omega)
  rw [List.length_map] at this
  have : x.args.length * (20000 + 1) ≤ 20001 * 20001 := Nat.mul_le_mul (by omega) (by omega)
  omega
end Go.Ab.S16
set_option linter.unusedSimpArgs false
set_option linter.unusedVariables false
set_option linter.constructorNameAsVariable false
namespace Go.Ab
open Go
variable {P : Program}
mutual
def nn : D → D
  | .v (.slice none 0 0) => .slc []
  | .agg cs => .agg (nns cs)
  | .slc xs => .slc (nns xs)
  | .tup xs => .tup (nns xs)
  | d => d
def nns : List D → List D
  | [] => []
  | d :: r => nn d :: nns r
end
theorem nns_map : ∀ ds, nns ds = ds.map nn
  | [] => rfl
  | d :: ds => by rw [nns, nns_map ds]; rfl
theorem nn_v (x : Value) : nn (.v x) = .v x ∨ (x = .slice none 0 0 ∧ nn (.v x) = .slc []) := by
  by_cases h : x = .slice none 0 0
  · subst h; exact .inr ⟨rfl, by unfold nn; rfl⟩
  · refine .inl ?_
    unfold nn
    split <;> first | rfl | simp_all
theorem nn_cells (d : D) : (nn d).cells = d.cells.map nn := by
  cases d with
  | agg cs => simp [nn, D.cells, nns_map]
  | slc xs => simp [nn, D.cells]
  | tup xs => simp [nn, D.cells]
  | v x =>
    rcases nn_v x with h | ⟨_, h⟩ <;> simp [h, D.cells]
  | _ => simp [nn, D.cells]
theorem flat_nns : ∀ ds : List D, flat (ds.map nn) = (flat ds).map nn
  | [] => rfl
  | d :: ds => by simp [nn_cells, flat_nns ds]
mutual
theorem rep_nn {w : World} {S : Nat → Prop} : ∀ {d : D} {v : Value}, Rep w S d v → Rep w S (nn d) v
  | _, _, .any => .any
  | _, _, .v (x := x) h => by
    rcases nn_v x with h1 | ⟨rfl, h1⟩
    · rw [h1]; exact .v h
    · rw [h1]; exact .slc0
  | _, _, .ptr => .ptr
  | _, _, .elt h1 h2 h3 => .elt h1 h2 h3
  | _, _, .slc0 => .slc0
  | _, _, .slc (xs := xs) (cap := cap) (b := b) (off := off) h1 h2 h3 h4 h5 => by
    have hl : (nns xs).length = xs.length := by rw [nns_map, List.length_map]
    have hr := repL_nn h2
    rw [nns_map, ← flat_nns, ← nns_map] at hr
    have key : Rep w S (.slc (nns xs)) (.slice (some ⟨b, off, none⟩) (nns xs).length cap) := Rep.slc h1 hr h3 (fun y hy => by
      rw [nns_map] at hy
      obtain ⟨z, hz, rfl⟩ := List.mem_map.1 hy
      rw [nn_cells, List.length_map]; exact h4 z hz) (by rw [hl]; exact h5)
    rw [hl] at key
    exact key
  | _, _, .own0 => .own0
  | _, _, .own hh hn hc hm => .own hh hn hc hm
  | _, _, .win0 => .win0
  | _, _, .win hh hn hc hm => .win hh hn hc hm
  | _, _, .agg hr => .agg (repL_nn hr)
  | _, _, .tup hr => .tup (repL_nn hr)
  | _, _, .map => .map
  | _, _, .clo hf hc => .clo hf hc
  | _, _, .ifc h => .ifc h
theorem repL_nn {w : World} {S : Nat → Prop} : ∀ {ds : List D} {vs : List Value}, RepL w S ds vs → RepL w S (nns ds) vs
  | _, _, .nil => .nil
  | _, _, .cons h t => .cons (rep_nn h) (repL_nn t)
end
/-- A contract, called with nil slices where it speaks of empty rows. -/
theorem ACalls.nn {f : FuncId} {args args' : List D} {σ : Store} {R : AEnd → Store → Prop} (h : ACalls P f args' σ R) (he : nns args = args') : ACalls P f args σ R :=
  h.args_le fun w S vs hr => he ▸ repL_nn hr
end Go.Ab
set_option linter.unusedSimpArgs false
set_option linter.unusedVariables false
set_option linter.constructorNameAsVariable false
namespace Go.Ab.S16
open Go Go.Proofs Go.RowKit
theorem edgeOk (outs ins impl order : List ByteArray) (cmd dep : ByteArray) (h1 : outs.length ≤ 10) (h2 : ins.length ≤ 10) (h3 : impl.length ≤ 10) (h4 : order.length ≤ 10) (hc : cmd.size ≤ 20000) (hs : ∀ f ∈ outs ++ ins ++ impl ++ order, f.size < 2 ^ 40) : EdgeOk ⟨outs, ins, impl, order, cmd, dep⟩ :=
  ⟨⟨h1, h2, h3, h4⟩, cmdOk cmd hc, fun f hf => hs f (by simp [hf]), fun f hf => hs f (by
    have : f ∈ ins ++ impl ++ order := hf
    simp only [List.mem_append] at this ⊢
    rcases this with (h | h) | h
    · exact .inl (.inl (.inr h))
    · exact .inl (.inr h)
    · exact .inr h)⟩
theorem aw_ok : EvOk awM awL [] := by
  refine ⟨by decide, fun e he => ?_, by decide, by decide, fun f hf => ?_, by decide⟩
  · simp only [awM, List.mem_cons, List.not_mem_nil, or_false] at he
    rcases he with rfl | rfl
    · exact edgeOk _ _ _ _ _ _ (by decide) (by decide) (by decide) (by decide) (by decide) (by decide)
    · exact edgeOk _ _ _ _ _ _ (by decide) (by decide) (by decide) (by decide) (by decide) (by decide)
  · simp only [awL, List.mem_cons, List.not_mem_nil, or_false] at hf
    subst hf
    exact ⟨by decide, by decide⟩
theorem at4 {α : Type} (a b c d e : α) (l : List α) : (a :: b :: c :: d :: e :: l).toArray[4]? = some e := rfl
theorem at5 {α : Type} (a b c d e f : α) (l : List α) : (a :: b :: c :: d :: e :: f :: l).toArray[5]? = some f := rfl
theorem at6 {α : Type} (a b c d e f g : α) (l : List α) : (a :: b :: c :: d :: e :: f :: g :: l).toArray[6]? = some g := rfl
theorem at7 {α : Type} (a b c d e f g h : α) (l : List α) : (a :: b :: c :: d :: e :: f :: g :: h :: l).toArray[7]? = some h := rfl
theorem at8 {α : Type} (a b c d e f g h i : α) (l : List α) : (a :: b :: c :: d :: e :: f :: g :: h :: i :: l).toArray[8]? = some i := rfl
theorem at9 {α : Type} (a b c d e f g h i j : α) (l : List α) : (a :: b :: c :: d :: e :: f :: g :: h :: i :: j :: l).toArray[9]? = some j := rfl
theorem at10 {α : Type} (a b c d e f g h i j k : α) (l : List α) : (a :: b :: c :: d :: e :: f :: g :: h :: i :: j :: k :: l).toArray[10]? = some k := rfl
theorem awake_calls (σ : Store) : ACalls Tryz.prog 17 [] σ (fun e σ' => e = .ret (.v (.bool true)) ∧ σ' = σ) := by
  refine ACalls.still ?_ σ
  refine ACalls.forget (R := fun e _ => e = .ret (.v (.bool true))) ?_ fun e σ' h => ⟨[], SLe.nil _, h, rfl⟩
  have hev := fun σ => eval_calls awM awL [] aw_ok σ
  simp only [aw_eval, resF, resE] at hev
  refine ACalls.of_body Tryz.func17 rfl Tryz.ntmps17 (by simp) fun C hC => ?_
  refine Goes.seq ?_
  refine Goes.region [] fun K hK => ?_; simp (maxSteps := 4000000) only [go_sem, ↓reduceIte, reduceCtorEq, zqa, zqb, zqc, zqd, zqe, zqf, zqg, zqh, zqi, zqj, zqk, zql, zqm]
  refine hK _ _ ?_; clear hK K
  refine Goes.seq ?_
  refine Goes.regionM [] [4, 5, 7, 8, 10] fun K hK => ?_; simp (maxSteps := 4000000) only [go_sem, ↓reduceIte, reduceCtorEq, zqa, zqb, zqc, zqd, zqe, zqf, zqg, zqh, zqi, zqj, zqk, zql, zqm]
  refine ⟨by decide, by decide, by decide, by decide, ⟨by decide, by decide⟩, fun b1 => ?_⟩
  refine hK _ _ ?_; clear hK K
  refine Goes.seq ?_
  refine Goes.regionOpen [1] ?_
  refine Goes.op (at0 _ _) rfl nofun dstB_lit ?_
  simp only [go_sem, ↓reduceIte, reduceCtorEq, zqa, zqb, zqc, zqd, zqe, zqf, zqg, zqh, zqi, zqj, zqk, zql, zqm]
  refine Goes.opBytes (e8 := 5) (at1 _ _ _) rfl (at2 _ _ _ _) rfl rfl rfl rfl rfl dstB_lit dstB_lit (by kernel_rfl) (by kernel_rfl) ?_
  simp only [go_sem, ↓reduceIte, reduceCtorEq, zqa, zqb, zqc, zqd, zqe, zqf, zqg, zqh, zqi, zqj, zqk, zql, zqm]
  refine ⟨by decide, fun b hb => ?_⟩
  refine Goes.rebase [13, 15] ?_
  simp only [go_sem, ↓reduceIte, reduceCtorEq, zqa, zqb, zqc, zqd, zqe, zqf, zqg, zqh, zqi, zqj, zqk, zql, zqm]
  refine Goes.le (ELe.refl _) (σ' := cellsOf (some b) 1 [bD 120] ++ []) (sle_cons2 (SLe.nil _)) ?_
  refine pubSlot2 15 (o := some b) (xs := [bD 120]) rfl ⟨fun c hc => rfl, nofun⟩ (fun c hc => PubOK.nil c) (fun c hc p hp hk => ?_) ?_
  · simp only [List.mem_cons, List.not_mem_nil, or_false] at hp
    rcases hp with rfl | rfl
    · rfl
    · exact absurd rfl hk
  simp only [go_sem, ↓reduceIte, reduceCtorEq, zqa, zqb, zqc, zqd, zqe, zqf, zqg, zqh, zqi, zqj, zqk, zql, zqm]
  refine Goes.op (at3 _ _ _ _ _) rfl nofun dstB_lit ?_
  simp only [go_sem, ↓reduceIte, reduceCtorEq, zqa, zqb, zqc, zqd, zqe, zqf, zqg, zqh, zqi, zqj, zqk, zql, zqm]
  refine Goes.op (at4 _ _ _ _ _ _) rfl nofun dstB_lit ?_
  simp only [go_sem, ↓reduceIte, reduceCtorEq, zqa, zqb, zqc, zqd, zqe, zqf, zqg, zqh, zqi, zqj, zqk, zql, zqm]
  refine ⟨⟨by decide, by decide⟩, fun b2 => ?_⟩
  refine Goes.rebase [13, 17] ?_
  simp only [go_sem, ↓reduceIte, reduceCtorEq, zqa, zqb, zqc, zqd, zqe, zqf, zqg, zqh, zqi, zqj, zqk, zql, zqm]
  refine Goes.le (ELe.refl _) (σ' := cellsOf (some b2) 2 (awL.map XFile.d) ++ []) (sle_cons2 (SLe.nil _)) ?_
  refine pubSlot2 17 (o := some b2) (xs := awL.map XFile.d) rfl ⟨fun c hc => rfl, nofun⟩ (fun c hc => PubOK.nil c) (fun c hc p hp hk => ?_) ?_
  · simp only [List.mem_cons, List.not_mem_nil, or_false] at hp
    rcases hp with rfl | rfl
    · rfl
    · exact absurd rfl hk
  simp only [go_sem, ↓reduceIte, reduceCtorEq, zqa, zqb, zqc, zqd, zqe, zqf, zqg, zqh, zqi, zqj, zqk, zql, zqm]
  refine Goes.op (at5 _ _ _ _ _ _ _) rfl nofun dstB_lit ?_
  simp only [go_sem, ↓reduceIte, reduceCtorEq, zqa, zqb, zqc, zqd, zqe, zqf, zqg, zqh, zqi, zqj, zqk, zql, zqm]
  refine ⟨_, Tryz.call12, ((hev _).nn (by kernel_rfl)).mono ?_⟩
  rintro e σ1 ⟨rfl, rfl⟩
  simp only [go_sem, ↓reduceIte, reduceCtorEq, zqa, zqb, zqc, zqd, zqe, zqf, zqg, zqh, zqi, zqj, zqk, zql, zqm]
  refine Goes.op (at6 _ _ _ _ _ _ _ _) rfl nofun dstB_lit ?_
  simp only [go_sem, ↓reduceIte, reduceCtorEq, zqa, zqb, zqc, zqd, zqe, zqf, zqg, zqh, zqi, zqj, zqk, zql, zqm]
  refine Goes.op (at7 _ _ _ _ _ _ _ _ _) rfl nofun dstB_lit ?_
  simp only [go_sem, ↓reduceIte, reduceCtorEq, zqa, zqb, zqc, zqd, zqe, zqf, zqg, zqh, zqi, zqj, zqk, zql, zqm]
  refine Goes.op (at8 _ _ _ _ _ _ _ _ _ _) rfl nofun dstB_lit ?_
  simp only [go_sem, ↓reduceIte, reduceCtorEq, zqa, zqb, zqc, zqd, zqe, zqf, zqg, zqh, zqi, zqj, zqk, zql, zqm]
  refine Goes.op (at9 _ _ _ _ _ _ _ _ _ _ _) rfl nofun dstB_lit ?_
  simp only [go_sem, ↓reduceIte, reduceCtorEq, zqa, zqb, zqc, zqd, zqe, zqf, zqg, zqh, zqi, zqj, zqk, zql, zqm]
  refine Goes.op (at10 _ _ _ _ _ _ _ _ _ _ _ _) rfl nofun dstB_lit ?_
  simp only [go_sem, ↓reduceIte, reduceCtorEq, zqa, zqb, zqc, zqd, zqe, zqf, zqg, zqh, zqi, zqj, zqk, zql, zqm]
  refine Goes.regionEnd ?_
  refine Goes.seq ?_
  have ho : awOut.map XFile.d = [.agg [.v (.string ⟨#[98]⟩), .slc [bD 120]], .agg [.v (.string ⟨#[99]⟩), .slc [bD 120, bD 120]]] := rfl
  rw [ho]
  unfold eD
  have h00 : (((0 : Nat) : Int) == 0) = true := rfl
  have h22 : (((2 : Nat) : Int) == 2) = true := rfl
  have hdc : decide ((0 : Int) ≤ ((UInt8.toNat 120 : Nat) : Int) ∧ ((UInt8.toNat 120 : Nat) : Int) < 256) = true := by decide
  have hb1 : bytesOf [D.v (Value.int .u8 ((UInt8.toNat 120 : Nat) : Int))] = ⟨#[120]⟩ := rfl
  have hb2 : bytesOf [D.v (Value.int .u8 ((UInt8.toNat 120 : Nat) : Int)), D.v (Value.int .u8 ((UInt8.toNat 120 : Nat) : Int))] = ⟨#[120, 120]⟩ := rfl
  refine Goes.region [2, 3] fun K hK => ?_; simp (maxSteps := 4000000) only [go_sem, ↓reduceIte, reduceCtorEq, zqa, zqb, zqc, zqd, zqe, zqf, zqg, zqh, zqi, zqj, zqk, zql, zqm, h00, h22, hdc, hb1, hb2, BEq.rfl, Bool.and_self]
  refine ⟨by decide, by decide, by decide, by decide, ?_⟩
  refine hK _ _ ?_; clear hK K
  refine Goes.ret hC Tryz.func17 (by simp [go_sem]) ?_
  simp only [go_sem, ↓reduceIte, reduceCtorEq, zqa, zqb, zqc, zqd, zqe, zqf, zqg, zqh, zqi, zqj, zqk, zql, zqm]
end Go.Ab.S16
set_option linter.unusedSimpArgs false
set_option linter.unusedVariables false
set_option linter.constructorNameAsVariable false
namespace Go.Ab.S16
open Go Go.Proofs Go.RowKit
def ownNms : List ByteArray := [nmNinja, nmLog, nmDeps, nmLogNew, nmDepsNew]
def incS : List UInt8 := [35, 105, 110, 99, 108, 117, 100, 101, 32]
def owE (o : ByteArray) (j : Nat) : XEdge := ⟨[if j = 0 then o else lB [111]], [lB [97]], if j = 2 then [o] else [], if j = 1 then [o] else [], lB [105, 110, 99, 32, 97, 32, 62, 32, 111, 32, 58, 32, 111, 46, 100], lB [111, 46, 100]⟩
def owL (o : ByteArray) : List XFile := [⟨o, [120]⟩, ⟨lB [97], incS ++ bL o⟩]
def owW (j : Nat) : Nat := if j < 3 then 5 else 13
def okE (r : Nat ⊕ List XFile) (w : Nat) : Bool := match r with
  | .inl c => c == w
  | .inr _ => false
theorem ow_facts : (ownNms.all fun o => ownB o && !ownB (lB (bL o ++ [120])) && decide (o.size ≤ 14) && (List.range 4).all fun j => okE (evalM ⟨[owE o j], []⟩ (owL o) []) (owW j)) = true := by kernel_rfl
theorem ow_eval {o : ByteArray} (ho : o ∈ ownNms) {j : Nat} (hj : j < 4) : evalM ⟨[owE o j], []⟩ (owL o) [] = .inl (owW j) := by
  have h := List.all_eq_true.1 ow_facts o ho
  simp only [Bool.and_eq_true] at h
  have h2 := List.all_eq_true.1 h.2 j (List.mem_range.2 hj)
  unfold okE at h2
  split at h2
  · rename_i c hc
    rw [hc, beq_iff_eq.1 h2]
  · cases h2
theorem ow_size {o : ByteArray} (ho : o ∈ ownNms) : o.size ≤ 14 := by
  have h := List.all_eq_true.1 ow_facts o ho
  simp only [Bool.and_eq_true] at h
  exact of_decide_eq_true h.1.2
theorem ow_own {o : ByteArray} (ho : o ∈ ownNms) : ownB o = true ∧ ownB (lB (bL o ++ [120])) = false := by
  have h := List.all_eq_true.1 ow_facts o ho
  simp only [Bool.and_eq_true] at h
  exact ⟨h.1.1.1, by simpa using h.1.1.2⟩
/-- The edge, as the law makes it. -/
def owD (o : ByteArray) (j : Nat) : D := .agg [.slc [sD (if j = 0 then o else lB [111])], .slc [sD (lB [97])], if j = 2 then .slc [sD o] else .v (.slice none 0 0), if j = 1 then .slc [sD o] else .v (.slice none 0 0), .v (.string (lB [105, 110, 99, 32, 97, 32, 62, 32, 111, 32, 58, 32, 111, 46, 100])), .v (.string (lB [111, 46, 100]))]
theorem nn_owD (o : ByteArray) {j : Nat} (hj : j < 4) : nn (owD o j) = (owE o j).d := by
  match j, hj with
  | 0, _ => rfl
  | 1, _ => rfl
  | 2, _ => rfl
  | 3, _ => rfl
theorem ow_ok {o : ByteArray} (ho : o ∈ ownNms) {j : Nat} (hj : j < 4) : EvOk ⟨[owE o j], []⟩ (owL o) [] := by
  have hs := ow_size ho
  have h1 : (lB [111]).size = 1 := rfl
  have h2 : (lB [97]).size = 1 := rfl
  refine ⟨by show 1 ≤ 60; omega, fun e he => ?_, by show 0 < _; omega, by show 2 ≤ 400; omega, fun f hf => ?_, by show 0 < _; omega⟩
  · simp only [List.mem_cons, List.not_mem_nil, or_false] at he
    subst he
    refine edgeOk _ _ _ _ _ _ (by show 1 ≤ 10; omega) (by show 1 ≤ 10; omega) (by show (if j = 2 then [o] else []).length ≤ 10; split <;> simp) (by show (if j = 1 then [o] else []).length ≤ 10; split <;> simp) (by decide) fun f hf => ?_
    have hf2 : f = o ∨ f = lB [111] ∨ f = lB [97] := by
      simp only [List.mem_append, List.mem_cons, List.not_mem_nil, or_false] at hf
      rcases hf with ((hf | hf) | hf) | hf
      · split at hf
        · exact .inl hf
        · exact .inr (.inl hf)
      · exact .inr (.inr hf)
      · split at hf
        · exact .inl (by simpa using hf)
        · cases hf
      · split at hf
        · exact .inl (by simpa using hf)
        · cases hf
    rcases hf2 with rfl | rfl | rfl <;> omega
  · simp only [owL, List.mem_cons, List.not_mem_nil, or_false] at hf
    rcases hf with rfl | rfl
    · exact ⟨by show 1 < _; omega, by show o.size < _; omega⟩
    · refine ⟨?_, by show (lB [97]).size < _; omega⟩
      show (incS ++ bL o).length < _
      have : (bL o).length = o.size := rfl
      have h3 : incS.length = 9 := rfl
      rw [List.length_append, this, h3]; omega
theorem nns_bD (l : List UInt8) : nns (l.map bD) = l.map bD := by
  rw [nns_map, List.map_map]; rfl
theorem nn_file (f : XFile) : nn f.d = f.d := by
  show D.agg [_, .slc (nns (f.b.map bD))] = _
  rw [nns_bD]; rfl
theorem nns_file (l : List XFile) : nns (l.map XFile.d) = l.map XFile.d := by
  rw [nns_map, List.map_map]
  exact List.map_congr_left fun f _ => nn_file f
theorem wrap_small (a : Nat) (h : a < 2 ^ 62) : IntKind.i64.wrap (a : Int) = a := by
  cases a with
  | zero => rfl
  | succ i => exact wrap_succ i (by omega)
theorem sown_true (a b : Nat) (ha : a < 256) (hb : b < 256) (σ : Store) :
    ACalls Tryz.prog 6 [.v (.int .u8 a), .v (.int .u8 b)] σ (fun e σ' => e = .ret (.v (.bool true)) ∧ σ' = σ) := by
  refine ACalls.still ?_ σ
  refine ACalls.forget (R := fun e _ => e = .ret (.v (.bool true))) ?_ fun e σ' h => ⟨[], SLe.nil _, h, rfl⟩
  have hwa : IntKind.i64.wrap (a : Int) = a := wrap_small a (by omega)
  have hwb : IntKind.i64.wrap (b : Int) = b := wrap_small b (by omega)
  have hra : ∀ xo yo, aBin Tryz.prog .rem 3 xo yo (.v (.int .i64 a)) (.v (.int .i64 5)) = .val True (.v (.int .i64 ((a % 5 : Nat) : Int))) := fun xo yo => by
    rw [bin_rem _ _ _ _ .i64 (a : Int) 5 (by omega), Int.tmod_eq_emod_of_nonneg (by omega)]
    rfl
  have hrb : ∀ xo yo, aBin Tryz.prog .rem 3 xo yo (.v (.int .i64 b)) (.v (.int .i64 4)) = .val True (.v (.int .i64 ((b % 4 : Nat) : Int))) := fun xo yo => by
    rw [bin_rem _ _ _ _ .i64 (b : Int) 4 (by omega), Int.tmod_eq_emod_of_nonneg (by omega)]
    rfl
  refine ACalls.of_body Tryz.func6 rfl Tryz.ntmps6 (by simp) fun C hC => ?_
  refine Goes.seq ?_
  refine Goes.region [0, 1] fun K hK => ?_; simp (maxSteps := 4000000) only [go_sem, ↓reduceIte, reduceCtorEq, zqa, zqb, zqc, zqd, zqe, zqf, zqg, zqh, zqi, zqj, zqk, zql, zqm]
  refine hK _ _ ?_; clear hK K
  refine Goes.seq ?_
  obtain ⟨o, ho, hgo⟩ : ∃ o ∈ ownNms, (ownNms.map sD).getD (a % 5) .any = .v (.string o) := ⟨_, List.getElem_mem (show a % 5 < ownNms.length from Nat.mod_lt _ (by decide)), getD_map_lt sD ownNms (a % 5) (Nat.mod_lt _ (by decide))⟩
  simp only [ownNms, List.map_cons, List.map_nil, sD, nmNinja, nmLog, nmDeps, nmLogNew, nmDepsNew] at hgo
  have hi0 : (0 : Int) ≤ ((a % 5 : Nat) : Int) := by omega
  have hi1 : ((a % 5 : Nat) : Int) < ((5 : Nat) : Int) := by omega
  refine Goes.regionM [0, 1] [11] fun K hK => ?_; simp (maxSteps := 4000000) only [go_sem, ↓reduceIte, reduceCtorEq, zqa, zqb, zqc, zqd, zqe, zqf, zqg, zqh, zqi, zqj, zqk, zql, zqm, hwa, hra, hgo, hi0, hi1]
  refine ⟨by decide, ?_⟩
  refine hK _ _ ?_; clear hK K
  have hos := ow_size ho
  have hbl : (bL o).length = o.size := rfl
  have hinc := fun xo yo => sadd2 xo yo (lB incS) o (by rw [bL_lB]; show 9 + (bL o).length < _; omega)
  refine Goes.seq ?_
  refine Goes.regionOpen [1, 5] ?_
  refine Goes.op (at0 _ _) rfl nofun dstB_lit ?_
  simp only [go_sem, ↓reduceIte, reduceCtorEq, zqa, zqb, zqc, zqd, zqe, zqf, zqg, zqh, zqi, zqj, zqk, zql, zqm]
  refine Goes.opBytes (e8 := 5) (at1 _ _ _) rfl (at2 _ _ _ _) rfl rfl rfl rfl rfl dstB_lit dstB_lit (by kernel_rfl) (by kernel_rfl) ?_
  simp only [go_sem, ↓reduceIte, reduceCtorEq, zqa, zqb, zqc, zqd, zqe, zqf, zqg, zqh, zqi, zqj, zqk, zql, zqm]
  refine ⟨by decide, fun b1 => ?_⟩
  refine Goes.rebase [1, 5, 17, 19] ?_
  simp only [go_sem, ↓reduceIte, reduceCtorEq, zqa, zqb, zqc, zqd, zqe, zqf, zqg, zqh, zqi, zqj, zqk, zql, zqm]
  refine Goes.le (ELe.refl _) (σ' := cellsOf (some b1) 1 [bD 120] ++ []) (sle_cons2 (SLe.nil _)) ?_
  refine pubSlot2 19 (o := some b1) (xs := [bD 120]) rfl ⟨fun c hc => rfl, nofun⟩ (fun c hc => PubOK.nil c) (fun c hc p hp hk => ?_) ?_
  · simp only [List.mem_cons, List.not_mem_nil, or_false] at hp
    rcases hp with rfl | rfl | rfl | rfl <;> first | rfl | exact absurd rfl hk
  simp only [go_sem, ↓reduceIte, reduceCtorEq, zqa, zqb, zqc, zqd, zqe, zqf, zqg, zqh, zqi, zqj, zqk, zql, zqm]
  refine Goes.op (at3 _ _ _ _ _) rfl nofun dstB_lit ?_
  simp only [go_sem, ↓reduceIte, reduceCtorEq, zqa, zqb, zqc, zqd, zqe, zqf, zqg, zqh, zqi, zqj, zqk, zql, zqm]
  refine Goes.op (at4 _ _ _ _ _ _) rfl nofun dstB_lit ?_
  simp only [go_sem, ↓reduceIte, reduceCtorEq, zqa, zqb, zqc, zqd, zqe, zqf, zqg, zqh, zqi, zqj, zqk, zql, zqm]
  refine Goes.op (at5 _ _ _ _ _ _ _) rfl nofun dstB_lit ?_
  have hinc2 : ∀ xo yo, aBin Tryz.prog .add 9 xo yo (.v (.string ⟨#[35, 105, 110, 99, 108, 117, 100, 101, 32]⟩)) (.v (.string o)) = .val True (.v (.string (lB (incS ++ bL o)))) := hinc
  simp only [go_sem, ↓reduceIte, reduceCtorEq, zqa, zqb, zqc, zqd, zqe, zqf, zqg, zqh, zqi, zqj, zqk, zql, zqm, hinc2]
  refine Goes.op (at6 _ _ _ _ _ _ _ _) rfl nofun dstB_lit ?_
  simp only [go_sem, ↓reduceIte, reduceCtorEq, zqa, zqb, zqc, zqd, zqe, zqf, zqg, zqh, zqi, zqj, zqk, zql, zqm]
  refine ⟨by show (incS ++ bL o).length < _; rw [List.length_append, hbl]; show 9 + _ < _; omega, fun b2 => ?_⟩
  refine Goes.rebase [1, 5, 20, 23] ?_
  simp only [go_sem, ↓reduceIte, reduceCtorEq, zqa, zqb, zqc, zqd, zqe, zqf, zqg, zqh, zqi, zqj, zqk, zql, zqm]
  have hzs : (incS ++ bL o).length = (lB (incS ++ bL o)).size := rfl
  refine Goes.le (ELe.refl _) (σ' := cellsOf (some b2) 1 ((incS ++ bL o).map bD) ++ []) (sle_cons2 (SLe.nil _)) ?_
  refine pubSlot2 23 (o := some b2) (xs := (incS ++ bL o).map bD) (by rw [List.length_map]; rfl) ⟨fun c hc => rfl, nofun⟩ (fun c hc => PubOK.nil c) (fun c hc p hp hk => ?_) ?_
  · simp only [List.mem_cons, List.not_mem_nil, or_false] at hp
    rcases hp with rfl | rfl | rfl | rfl <;> first | rfl | exact absurd rfl hk
  simp only [go_sem, ↓reduceIte, reduceCtorEq, zqa, zqb, zqc, zqd, zqe, zqf, zqg, zqh, zqi, zqj, zqk, zql, zqm]
  refine Goes.op (at7 _ _ _ _ _ _ _ _ _) rfl nofun dstB_lit ?_
  simp only [go_sem, ↓reduceIte, reduceCtorEq, zqa, zqb, zqc, zqd, zqe, zqf, zqg, zqh, zqi, zqj, zqk, zql, zqm]
  refine Goes.op (at8 _ _ _ _ _ _ _ _ _ _) rfl nofun dstB_lit ?_
  simp only [go_sem, ↓reduceIte, reduceCtorEq, zqa, zqb, zqc, zqd, zqe, zqf, zqg, zqh, zqi, zqj, zqk, zql, zqm]
  refine ⟨⟨by decide, by decide⟩, fun b3 => ?_⟩
  refine Goes.rebase [1, 5, 25] ?_
  simp only [go_sem, ↓reduceIte, reduceCtorEq, zqa, zqb, zqc, zqd, zqe, zqf, zqg, zqh, zqi, zqj, zqk, zql, zqm]
  refine Goes.le (ELe.refl _) (σ' := cellsOf (some b3) 2 ((owL o).map XFile.d) ++ []) (sle_cons2 (SLe.nil _)) ?_
  refine pubSlot2 25 (o := some b3) (xs := (owL o).map XFile.d) rfl ⟨fun c hc => rfl, nofun⟩ (fun c hc => PubOK.nil c) (fun c hc p hp hk => ?_) ?_
  · simp only [List.mem_cons, List.not_mem_nil, or_false] at hp
    rcases hp with rfl | rfl | rfl <;> first | rfl | exact absurd rfl hk
  simp only [go_sem, ↓reduceIte, reduceCtorEq, zqa, zqb, zqc, zqd, zqe, zqf, zqg, zqh, zqi, zqj, zqk, zql, zqm]
  refine Goes.op (at9 _ _ _ _ _ _ _ _ _ _ _) rfl nofun dstB_lit ?_
  simp only [go_sem, ↓reduceIte, reduceCtorEq, zqa, zqb, zqc, zqd, zqe, zqf, zqg, zqh, zqi, zqj, zqk, zql, zqm]
  refine Goes.regionEnd ?_
  refine Goes.seq ?_
  refine Goes.regionM [1, 5, 6] [26, 27] fun K hK => ?_; simp (maxSteps := 4000000) only [go_sem, ↓reduceIte, reduceCtorEq, zqa, zqb, zqc, zqd, zqe, zqf, zqg, zqh, zqi, zqj, zqk, zql, zqm]
  refine ⟨by decide, by decide, fun bE => ?_⟩
  refine hK _ _ ?_; clear hK K
  refine Goes.seq ?_
  refine Goes.region [1, 5, 6, 7] fun K hK => ?_; simp (maxSteps := 4000000) only [go_sem, ↓reduceIte, reduceCtorEq, zqa, zqb, zqc, zqd, zqe, zqf, zqg, zqh, zqi, zqj, zqk, zql, zqm]
  refine hK _ _ ?_; clear hK K
  refine Goes.seq ?_
  refine Goes.seq ?_
  refine Goes.region [1, 5, 6, 7, 8] fun K hK => ?_; simp (maxSteps := 4000000) only [go_sem, ↓reduceIte, reduceCtorEq, zqa, zqb, zqc, zqd, zqe, zqf, zqg, zqh, zqi, zqj, zqk, zql, zqm, hwb, hrb]
  refine hK _ _ ?_; clear hK K
  have hj4 : b % 4 < 4 := Nat.mod_lt _ (by decide)
  generalize b % 4 = j at hj4 hrb ⊢
  refine Goes.block ?_
  refine Goes.seq ?_
  refine Goes.region [5, 6, 7, 8, 31] fun K hK => ?_; simp (maxSteps := 4000000) only [go_sem, ↓reduceIte, reduceCtorEq, zqa, zqb, zqc, zqd, zqe, zqf, zqg, zqh, zqi, zqj, zqk, zql, zqm]
  refine hK _ _ ?_; clear hK K
  refine Goes.join (fun env' σ' => env' = [(5, .v (.string o)), (6, .slc ((owL o).map XFile.d)), (7, .ptr bE 6 0 0), (8, .v (.int .i64 (owW j)))] ∧ σ' = [(bE, AObj.arr 6 [owD o j])]) (fun k1 hk1 => ?_) ?_
  · refine Goes.cond rfl (fun h32 => ?_) (fun h32 => ?_)
    · have hj0 : j = 0 := by simpa using h32
      subst hj0
      refine Goes.seq ?_
      refine Goes.regionM [5, 6, 7] [35] fun K hK => ?_; simp (maxSteps := 4000000) only [go_sem, ↓reduceIte, reduceCtorEq, zqa, zqb, zqc, zqd, zqe, zqf, zqg, zqh, zqi, zqj, zqk, zql, zqm]
      refine ⟨by decide, ?_⟩
      refine hK _ _ ?_; clear hK K
      refine Goes.region [5, 6, 7] fun K hK => ?_; simp (maxSteps := 4000000) only [go_sem, ↓reduceIte, reduceCtorEq, zqa, zqb, zqc, zqd, zqe, zqf, zqg, zqh, zqi, zqj, zqk, zql, zqm]
      refine hK _ _ ?_; clear hK K
      refine Goes.rebase [5, 6, 7, 8] ?_
      simp only [go_sem, ↓reduceIte, reduceCtorEq, zqa, zqb, zqc, zqd, zqe, zqf, zqg, zqh, zqi, zqj, zqk, zql, zqm]
      exact hk1 _ _ ⟨rfl, rfl⟩
    · have hj0 : j ≠ 0 := by simpa using h32
      refine Goes.seq ?_
      refine Goes.region [5, 6, 7, 8, 31] fun K hK => ?_; simp (maxSteps := 4000000) only [go_sem, ↓reduceIte, reduceCtorEq, zqa, zqb, zqc, zqd, zqe, zqf, zqg, zqh, zqi, zqj, zqk, zql, zqm]
      refine hK _ _ ?_; clear hK K
      refine Goes.cond rfl (fun h37 => ?_) (fun h37 => ?_)
      · have hj1 : j = 1 := by have h : (j : Int) = 1 := by simpa using h37
                               omega
        subst hj1
        refine Goes.seq ?_
        refine Goes.regionM [5, 6, 7] [40] fun K hK => ?_; simp (maxSteps := 4000000) only [go_sem, ↓reduceIte, reduceCtorEq, zqa, zqb, zqc, zqd, zqe, zqf, zqg, zqh, zqi, zqj, zqk, zql, zqm]
        refine ⟨by decide, ?_⟩
        refine hK _ _ ?_; clear hK K
        refine Goes.region [5, 6, 7] fun K hK => ?_; simp (maxSteps := 4000000) only [go_sem, ↓reduceIte, reduceCtorEq, zqa, zqb, zqc, zqd, zqe, zqf, zqg, zqh, zqi, zqj, zqk, zql, zqm]
        refine hK _ _ ?_; clear hK K
        refine Goes.rebase [5, 6, 7, 8] ?_
        simp only [go_sem, ↓reduceIte, reduceCtorEq, zqa, zqb, zqc, zqd, zqe, zqf, zqg, zqh, zqi, zqj, zqk, zql, zqm]
        exact hk1 _ _ ⟨rfl, rfl⟩
      · have hj1 : j ≠ 1 := by have h : ¬ (j : Int) = 1 := by simpa using h37
                               omega
        refine Goes.seq ?_
        refine Goes.region [5, 6, 7, 8, 31] fun K hK => ?_; simp (maxSteps := 4000000) only [go_sem, ↓reduceIte, reduceCtorEq, zqa, zqb, zqc, zqd, zqe, zqf, zqg, zqh, zqi, zqj, zqk, zql, zqm]
        refine hK _ _ ?_; clear hK K
        refine Goes.cond rfl (fun h42 => ?_) (fun h42 => ?_)
        · have hj2 : j = 2 := by have h : (j : Int) = 2 := by simpa using h42
                                 omega
          subst hj2
          refine Goes.seq ?_
          refine Goes.regionM [5, 6, 7] [45] fun K hK => ?_; simp (maxSteps := 4000000) only [go_sem, ↓reduceIte, reduceCtorEq, zqa, zqb, zqc, zqd, zqe, zqf, zqg, zqh, zqi, zqj, zqk, zql, zqm]
          refine ⟨by decide, ?_⟩
          refine hK _ _ ?_; clear hK K
          refine Goes.region [5, 6, 7] fun K hK => ?_; simp (maxSteps := 4000000) only [go_sem, ↓reduceIte, reduceCtorEq, zqa, zqb, zqc, zqd, zqe, zqf, zqg, zqh, zqi, zqj, zqk, zql, zqm]
          refine hK _ _ ?_; clear hK K
          refine Goes.rebase [5, 6, 7, 8] ?_
          simp only [go_sem, ↓reduceIte, reduceCtorEq, zqa, zqb, zqc, zqd, zqe, zqf, zqg, zqh, zqi, zqj, zqk, zql, zqm]
          exact hk1 _ _ ⟨rfl, rfl⟩
        · have hj3 : j = 3 := by
            have h : ¬ (j : Int) = 2 := by simpa using h42
            omega
          subst hj3
          refine Goes.skip ?_
          refine Goes.rebase [5, 6, 7, 8] ?_
          simp only [go_sem, ↓reduceIte, reduceCtorEq, zqa, zqb, zqc, zqd, zqe, zqf, zqg, zqh, zqi, zqj, zqk, zql, zqm]
          exact hk1 _ _ ⟨rfl, rfl⟩
  rintro env' σ' ⟨rfl, rfl⟩
  refine Goes.inBlock ?_
  refine Goes.seq ?_
  have hE := eval_calls ⟨[owE o j], []⟩ (owL o) [] (ow_ok ho hj4) []
  rw [ow_eval ho hj4] at hE
  simp only [resF, resE, List.map_nil] at hE
  have hod : (owD o j).cells.length = 6 := rfl
  have hown := ow_own ho
  have htk : List.take 6 (owD o j).cells = (owD o j).cells := rfl
  have hagg : D.agg (owD o j).cells = owD o j := rfl
  have hce : (∀ x : D, x ∈ (owD o j).cells → x.cell = true) = True := eq_true (by
    match j, hj4 with
    | 0, _ => simp [owD, D.cells, D.cell, sD]
    | 1, _ => simp [owD, D.cells, D.cell, sD]
    | 2, _ => simp [owD, D.cells, D.cell, sD]
    | 3, _ => simp [owD, D.cells, D.cell, sD])
  have hpl : (owD o j).plain = true := by
    match j, hj4 with
    | 0, _ => rfl
    | 1, _ => rfl
    | 2, _ => rfl
    | 3, _ => rfl
  refine Goes.regionM [5, 6, 7, 8] [49] fun K hK => ?_; simp (maxSteps := 4000000) only [go_sem, ↓reduceIte, reduceCtorEq, zqa, zqb, zqc, zqd, zqe, zqf, zqg, zqh, zqi, zqj, zqk, zql, zqm, hod, htk, hagg, hce, hpl]
  refine ⟨by decide, ?_⟩
  refine ⟨_, Tryz.call12, ((eval_calls ⟨[owE o j], []⟩ (owL o) [] (ow_ok ho hj4) _).nn (by show [D.agg [.slc [nn (owD o j)], .slc []], .slc (nns ((owL o).map XFile.d)), .slc []] = _; rw [nn_owD o hj4, nns_file]; rfl)).mono ?_⟩
  rintro e σ1 ⟨rfl, rfl⟩
  simp only [go_sem, ↓reduceIte, reduceCtorEq, zqa, zqb, zqc, zqd, zqe, zqf, zqg, zqh, zqi, zqj, zqk, zql, zqm, ow_eval ho hj4, resF, resE, eD, List.map_nil]
  refine hK _ _ ?_; clear hK K
  refine Goes.seq ?_
  have hx := fun xo yo => sadd2 xo yo o ⟨#[120]⟩ (by show (bL o).length + 1 < _; omega)
  have hx2 : lB (bL o ++ bL ⟨#[120]⟩) = lB (bL o ++ [120]) := rfl
  have hxs : (lB (bL o ++ [120])).size < 2 ^ 40 := by show (bL o ++ [120]).length < _; rw [List.length_append]; show (bL o).length + 1 < _; omega
  rw [hx2] at hx
  refine Goes.region [5, 8, 9, 10] fun K hK => ?_; simp (maxSteps := 4000000) only [go_sem, ↓reduceIte, reduceCtorEq, zqa, zqb, zqc, zqd, zqe, zqf, zqg, zqh, zqi, zqj, zqk, zql, zqm, BEq.rfl, List.length_nil]
  refine ⟨_, Tryz.call18, (own_calls o _ (by omega)).mono ?_⟩
  rintro e σ1 ⟨rfl, rfl⟩
  simp only [go_sem, ↓reduceIte, reduceCtorEq, zqa, zqb, zqc, zqd, zqe, zqf, zqg, zqh, zqi, zqj, zqk, zql, zqm, hown.1, hx]
  refine ⟨_, Tryz.call18, (own_calls (lB (bL o ++ [120])) _ hxs).mono ?_⟩
  rintro e σ1 ⟨rfl, rfl⟩
  simp only [go_sem, ↓reduceIte, reduceCtorEq, zqa, zqb, zqc, zqd, zqe, zqf, zqg, zqh, zqi, zqj, zqk, zql, zqm, hown.2, Bool.not_false]
  refine ⟨_, Tryz.call17, (awake_calls _).mono ?_⟩
  rintro e σ1 ⟨rfl, rfl⟩
  simp only [go_sem, ↓reduceIte, reduceCtorEq, zqa, zqb, zqc, zqd, zqe, zqf, zqg, zqh, zqi, zqj, zqk, zql, zqm]
  refine hK _ _ ?_; clear hK K
  refine Goes.ret hC Tryz.func6 (by simp [go_sem]) ?_
  simp only [go_sem, ↓reduceIte, reduceCtorEq, zqa, zqb, zqc, zqd, zqe, zqf, zqg, zqh, zqi, zqj, zqk, zql, zqm]
end Go.Ab.S16
namespace Go.Ab.S16
open Go Go.Proofs
theorem wt_u8 {d : D} (h : WTv (.int .u8) d) : ∃ n : Nat, n < 256 ∧ d = .v (.int .u8 (n : Int)) := by
  have h0 := h.1 rfl
  unfold WT at h0
  obtain ⟨n, hn, hwf⟩ := h0
  cases hn
  have : 0 ≤ n ∧ n < 256 := by
    simp [Lit.wf, IntKind.min, IntKind.max, IntKind.signed, IntKind.bits] at hwf
    omega
  exact ⟨n.toNat, by omega, by congr 2; omega⟩
theorem sown_law (xs : List D) (h : WTvs [.int .u8, .int .u8] xs) : ACalls Tryz.prog 6 xs [] (fun e _ => e = .ret (.v (.bool true))) := by
  obtain ⟨d, ds, rfl, h1, d2, ds2, rfl, h2, h3⟩ := h
  unfold WTvs at h3
  subst h3
  obtain ⟨a, ha, rfl⟩ := wt_u8 h1
  obtain ⟨b, hb, rfl⟩ := wt_u8 h2
  exact (sown_true a b ha hb []).mono fun e σ' h => h.1
end Go.Ab.S16
set_option linter.unusedSimpArgs false
set_option linter.unusedVariables false
set_option linter.constructorNameAsVariable false
namespace Go.Proofs.YticjnnmnjfpopaaGreatDoor
open Go.ChangeShapes Go.WideShapes Go.ChangeAt Go.RowKit Go.Ab
theorem own_knob : ownKnob Tryz.prog.godebug = none := by kernel_rfl
theorem laid_out : laidOutB Tryz.prog = true := by kernel_rfl
theorem cell_lt {w : World} {a : Addr} {v : Value} (h : w.cell? a = some v) : a.block < w.heap.size := by
  unfold World.cell? at h
  split at h
  · rename_i hb; exact (Array.getElem?_eq_some_iff.1 hb).1
  · cases h
/-- What the rows list. -/
def LL : List (String × DataW Unit) := Rows.scratchFitsRow.laid
theorem laid_plain : (LL.all fun x => x.2.handleName?.isNone) = true := by kernel_rfl
theorem laid_met (os : Os) (args : Array Value) : laidMetH Tryz.prog LL ((World.laidAll Tryz.prog os LL).forCall (fun _ _ => 0) ⟨#[], args, []⟩).memory := by
  rw [MakeChecks.laidMetH_plain _ _ _ laid_plain]
  exact laidMet_laidAll _ (by kernel_rfl) (by kernel_rfl)
theorem laid_shaped (os : Os) (args : Array Value) : ((World.laidAll Tryz.prog os LL).forCall (fun _ _ => 0) ⟨#[], args, []⟩).Shaped Tryz.prog :=
  World.shaped_of_ZipB (by kernel_rfl) (by kernel_rfl)
theorem laid_gok {W : World} (h : laidMetH Tryz.prog LL W) : GOk W (fun b => b < W.heap.size) := by
  rw [MakeChecks.laidMetH_plain _ _ _ laid_plain] at h
  intro g vs hg
  unfold glaid at hg
  simp only [glook] at hg
  split at hg
  · rename_i hgg
    subst hgg
    simp only [Option.some.injEq] at hg
    obtain ⟨g', t', cs, fuel, p, hg', ht', hv, hd⟩ := Lib.laidMet.reads h (show ("math/bits.deBruijn64tab", Rows.laid_math_bits_deBruijn64tab) ∈ LL from .tail _ (.head _))
    have hgn : Tryz.prog.globalNamed "math/bits.deBruijn64tab" = some 3 := by kernel_rfl
    have hty : (Tryz.prog.globals[3]?).map (·.type) = some 265 := by kernel_rfl
    obtain rfl := Option.some.inj (hgn.symm.trans hg')
    obtain rfl := Option.some.inj (hty.symm.trans ht')
    have hcs := Lib.cells_of_tab (n := 64) (k := .u8) (e := 5) (zs := vs.filterMap fun v => match v with | .int _ z => some z | _ => none) (by kernel_rfl) (by kernel_rfl) (by kernel_rfl) (by kernel_rfl) (by
      subst hg; exact hd)
    have hvs : (vs.filterMap fun v => match v with | .int _ z => some z | _ => none).map (fun z => Value.int .u8 z) = vs := by subst hg; rfl
    rw [hvs] at hcs
    have hcell : ∀ k x, vs[k]? = some x → W.cell? ⟨3, k, none⟩ = some x := fun k x hx => by
      rw [World.var?_cell hgn hv k]
      rw [← hcs] at hx
      simpa using hx
    have h0 : W.cell? ⟨3, 0, none⟩ = some (.int .u8 0) := hcell 0 _ (by subst hg; rfl)
    exact ⟨cell_lt h0, fun k x hx => by rw [Nat.zero_add]; exact hcell k x hx⟩
  · cases hg
end Go.Proofs.YticjnnmnjfpopaaGreatDoor
