/- A part of a proof about the given program: the abstract machine, what functions compute, laid in few texts. -/
import Derived.Test.YticjnnmnjfpopaaGreatDoorKGh
import Derived.Lib.SlBytesConst
open Nat renaming reduceEqDiff → zqa, reduceBEq → zqb, reduceLT → zqe, reduceLeDiff → zqf, reduceAdd → zqg, reduceSub → zqh, reduceMul → zqi
open Int renaming reduceBEq → zqc, reduceBNe → zqd, reduceToNat → zqj, reduceEq → zqk, reduceLT → zql, reduceLE → zqm
set_option linter.unusedSimpArgs false
set_option linter.unusedVariables false
set_option linter.constructorNameAsVariable false
namespace Go.Ab.S16
open Go Go.Proofs Go.RowKit
theorem fieldsS_calls (s : ByteArray) (hs : s.size ≤ 4294967296) (σ : Store) : ACalls Tryz.prog 103 [.v (.string s), .clo (.func 104) [] []] σ (fun e σ' => e = .ret (.slc ((wordsM s).map sD)) ∧ σ' = σ) :=
  ACalls.pubOwn ((fields_calls s hs []).mono fun e σ' ⟨o, hg, he, hs⟩ => ⟨o, hg, he, by rw [hs]⟩) σ
def isFunc : Option TypeDesc → Bool
  | some (.func _ _ _) => true
  | _ => false
structure Shp where
  verb : ByteArray
  args : List ByteArray
  once : Bool
  outs : List ByteArray
  dep : ByteArray
def Shp.d (s : Shp) : D := .tup [.v (.string s.verb), .slc (s.args.map sD), .v (.bool s.once), .slc (s.outs.map sD), .v (.string s.dep)]
theorem equalIn_ff {P : Program} {T : TypeId} (h : isFunc (P.underlying T) = true) (d : Nat) : purely P (Op.equalIn (d + 1) T .nilFunc .nilFunc) = some true := by
  have : ∃ a b c, P.underlying T = some (.func a b c) := by
    unfold isFunc at h
    split at h
    · exact ⟨_, _, _, by assumption⟩
    · cases h
  obtain ⟨a, b, c, hu⟩ := this
  simp only [Op.equalIn, purely_bind, purely_underlying, hu, Option.bind_some, purely_pure]
theorem equal_ff {P : Program} {T : TypeId} (h : isFunc (P.underlying T) = true) : purely P (Op.equal T .nilFunc .nilFunc) = some true := equalIn_ff h 9999
theorem bin_ff (P : Program) (T : TypeId) (x y : Operand) (h : isFunc (P.underlying T) = true) : aBin P .neq T x y (.v .nilFunc) (.v .nilFunc) = .val True (.v (.bool false)) := by
  simp [aBin, ifcNil, aBin0, toV, scal, eqGuard, binOp, okV, ofV, purely_pure, purely_bind, purely_map, equal_ff h]
theorem bin_ff131 (x y : Operand) : aBin Tryz.prog .neq 131 x y (.v .nilFunc) (.v .nilFunc) = .val True (.v (.bool false)) := bin_ff _ _ _ _ (by kernel_rfl)
theorem verb_some (verb : List UInt8) (hv : isVerb verb = true) : ∃ g, mfind (.string (lB verb)) verbsM = some (.clo (.func g) [] []) := by
  have key : verb = [99, 97, 116] ∨ verb = [114, 101, 118] ∨ verb = [115, 117, 109] ∨ verb = [112, 117, 116] ∨ verb = [105, 110, 99] ∨ verb = [102, 97, 105, 108] := by simpa [isVerb] using hv
  rcases key with rfl | rfl | rfl | rfl | rfl | rfl
  · exact ⟨_, (by kernel_rfl : mfind (.string (lB [99, 97, 116])) verbsM = some (.clo (.func 106) [] []))⟩
  · exact ⟨_, (by kernel_rfl : mfind (.string (lB [114, 101, 118])) verbsM = some (.clo (.func 107) [] []))⟩
  · exact ⟨_, (by kernel_rfl : mfind (.string (lB [115, 117, 109])) verbsM = some (.clo (.func 108) [] []))⟩
  · exact ⟨_, (by kernel_rfl : mfind (.string (lB [112, 117, 116])) verbsM = some (.clo (.func 109) [] []))⟩
  · exact ⟨_, (by kernel_rfl : mfind (.string (lB [105, 110, 99])) verbsM = some (.clo (.func 110) [] []))⟩
  · exact ⟨_, (by kernel_rfl : mfind (.string (lB [102, 97, 105, 108])) verbsM = some (.clo (.func 111) [] []))⟩
theorem verbs_like (s : ByteArray) : keyLike .string (.string s) (.string s) = true ∧ ∀ e ∈ verbsM, keyLike .string (.string s) e.1 = true := ⟨rfl, allS_like verbsM_all s⟩
def onceB (ws : List ByteArray) : Bool := match ws with | w :: _ => w.toList == (⟨#[111, 110, 99, 101]⟩ : ByteArray).toList | [] => false
/-- What the words behind once tell. -/
def shapeW (once : Bool) (ws : List ByteArray) : Option Shp :=
  match ws.findIdx? (fun s => (⟨#[62]⟩ : ByteArray).toList == s.toList) with
  | some (k + 1) => if isVerb (bL (ws.getD 0 ⟨#[]⟩)) = true then
      match outsM (ws.drop (k + 2)) with
      | some (outs, dep) => if (!(dep.toList == (⟨#[]⟩ : ByteArray).toList)) = ((ws.getD 0 ⟨#[]⟩).toList == (⟨#[105, 110, 99]⟩ : ByteArray).toList) then some ⟨ws.getD 0 ⟨#[]⟩, (ws.take (k + 1)).drop 1, once, outs, dep⟩ else none
      | none => none
    else none
  | _ => none
def shapeM (s : ByteArray) : Option Shp := if onceB (wordsM s) = true then shapeW true ((wordsM s).drop 1) else shapeW false (wordsM s)
set_option maxHeartbeats 4000000 in
theorem shape_calls (s : ByteArray) (hs : s.size ≤ 4294967296) (hl : (wordsM s).length < 2 ^ 40) (hB : ∀ w ∈ wordsM s, w.size < 2 ^ 40) (σ : Store) :
    ACalls Tryz.prog 79 [.v (.string s)] σ (AR (shapeM s) (fun x e σ' => e = .ret x.d ∧ σ' = σ) σ) := by
  have hll : ((wordsM s).map sD).length = (wordsM s).length := List.length_map ..
  refine ACalls.of_body Tryz.func79 rfl Tryz.ntmps79 (by simp) fun C hC => ?_
  refine Goes.seq ?_
  refine Goes.region [0] fun K hK => ?_; simp (maxSteps := 4000000) only [go_sem, ↓reduceIte, reduceCtorEq, zqa, zqb, zqc, zqd, zqe, zqf, zqg, zqh, zqi, zqj, zqk, zql, zqm]
  refine hK _ _ ?_; clear hK K
  refine Goes.seq ?_
  refine Goes.region [0, 4] fun K hK => ?_; simp (maxSteps := 4000000) only [go_sem, ↓reduceIte, reduceCtorEq, zqa, zqb, zqc, zqd, zqe, zqf, zqg, zqh, zqi, zqj, zqk, zql, zqm]
  refine ⟨_, Tryz.call103, (fieldsS_calls s hs _).mono ?_⟩
  rintro e σ1 ⟨rfl, rfl⟩
  simp only [go_sem, ↓reduceIte, reduceCtorEq, zqa, zqb, zqc, zqd, zqe, zqf, zqg, zqh, zqi, zqj, zqk, zql, zqm]
  refine hK _ _ ?_; clear hK K
  refine Goes.seq ?_
  refine Goes.seq ?_
  rcases hw : wordsM s with _ | ⟨w, ws⟩
  · have hsh : shapeM s = none := by unfold shapeM; rw [hw]; rfl
    refine Goes.region [4, 7] fun K hK => ?_; simp (maxSteps := 4000000) only [go_sem, ↓reduceIte, reduceCtorEq, zqa, zqb, zqc, zqd, zqe, zqf, zqg, zqh, zqi, zqj, zqk, zql, zqm]
    refine hK _ _ ?_; clear hK K
    refine Goes.condF rfl ?_
    refine Goes.skip ?_
    refine Goes.seq ?_
    refine Goes.region [4, 7] fun K hK => ?_; simp (maxSteps := 4000000) only [go_sem, ↓reduceIte, reduceCtorEq, zqa, zqb, zqc, zqd, zqe, zqf, zqg, zqh, zqi, zqj, zqk, zql, zqm]
    refine ⟨_, Tryz.call89, (index_str [] ⟨#[62]⟩ _ (by simp)).mono ?_⟩
    rintro e σ1 ⟨rfl, rfl⟩
    simp only [go_sem, ↓reduceIte, reduceCtorEq, zqa, zqb, zqc, zqd, zqe, zqf, zqg, zqh, zqi, zqj, zqk, zql, zqm]
    refine hK _ _ ?_; clear hK K
    refine Goes.seq ?_
    refine Goes.draw [4, 7, 8] [] [] [] [(0, true), (1, true), (2, true), (4, true), (5, true), (6, true), (3, false), (7, true), (8, true), (9, true), (10, false)] (by kernel_rfl) (by decide) (by kernel_rfl) fun K hK => ?_; simp (maxSteps := 4000000) only [go_sem, ↓reduceIte, reduceCtorEq, zqa, zqb, zqc, zqd, zqe, zqf, zqg, zqh, zqi, zqj, zqk, zql, zqm]
    refine ⟨_, Tryz.call81, (need_calls false _).mono ?_⟩
    rintro e σ1 ⟨rfl, rfl⟩
    simp only [go_sem, ↓reduceIte, reduceCtorEq, zqa, zqb, zqc, zqd, zqe, zqf, zqg, zqh, zqi, zqj, zqk, zql, zqm]
    refine Pan.of hC Tryz.func79 ?_
    rw [hsh]
    exact ⟨rfl, SLe.refl _⟩
  · have hln : decide (((ws.map sD).length + 1 : Nat) > (0 : Int)) = true := decide_eq_true (by omega)
    have hsw : (sD w).cells = [.v (.string w)] := rfl
    refine Goes.region [4, 7] fun K hK => ?_; simp (maxSteps := 4000000) only [go_sem, ↓reduceIte, reduceCtorEq, zqa, zqb, zqc, zqd, zqe, zqf, zqg, zqh, zqi, zqj, zqk, zql, zqm, List.map_cons, List.length_cons, hln, hsw]
    refine ⟨by omega, ?_⟩
    refine hK _ _ ?_; clear hK K
    refine Goes.join (fun env' σ' => ∃ once ws, env' = [(4, .v (.bool once)), (7, .slc (ws.map sD))] ∧ σ' = σ1 ∧ shapeM s = shapeW once ws ∧ ws.length < 2 ^ 40 ∧ ∀ w ∈ ws, w.size < 2 ^ 40) (fun k1 hk1 => ?_) ?_
    · refine Goes.cond rfl (fun h19 => ?_) (fun h19 => ?_)
      · refine Goes.draw [7] [] [] [] [(0, true), (1, true), (2, true), (3, true)] (by kernel_rfl) (by decide) (by kernel_rfl) fun K hK => ?_; simp (maxSteps := 4000000) only [go_sem, ↓reduceIte, reduceCtorEq, zqa, zqb, zqc, zqd, zqe, zqf, zqg, zqh, zqi, zqj, zqk, zql, zqm]
        refine ⟨⟨by omega, by omega, fun y hy => (plain_sD (w :: ws) y (List.mem_cons.2 hy)).1⟩, ?_⟩
        refine hK _ _ ?_; clear hK K
        refine Goes.rebase [4, 7] ?_
        simp only [go_sem, ↓reduceIte, reduceCtorEq, zqa, zqb, zqc, zqd, zqe, zqf, zqg, zqh, zqi, zqj, zqk, zql, zqm]
        have ho : onceB (w :: ws) = true := h19
        refine hk1 _ _ ⟨true, ws, ?_, rfl, ?_, ?_, fun x hx => hB x (by rw [hw]; simp [hx])⟩
        · rw [List.take_of_length_le (by simp)]
        · unfold shapeM; rw [hw, if_pos ho]; rfl
        · rw [hw] at hl; simp at hl; omega
      · refine Goes.skip ?_
        refine Goes.rebase [4, 7] ?_
        simp only [go_sem, ↓reduceIte, reduceCtorEq, zqa, zqb, zqc, zqd, zqe, zqf, zqg, zqh, zqi, zqj, zqk, zql, zqm]
        have ho : ¬ onceB (w :: ws) = true := by
          intro h
          have h2 : (w.toList == (⟨#[111, 110, 99, 101]⟩ : ByteArray).toList) = false := h19
          change (w.toList == (⟨#[111, 110, 99, 101]⟩ : ByteArray).toList) = true at h
          rw [h2] at h; cases h
        refine hk1 _ _ ⟨false, w :: ws, rfl, rfl, ?_, ?_, fun x hx => hB x (by rw [hw]; exact hx)⟩
        · unfold shapeM; rw [hw, if_neg ho]
        · rw [hw] at hl; exact hl
    rintro env' σ' ⟨once, W, rfl, rfl, hsh, hWl, hWB⟩
    refine Goes.seq ?_
    have hWll : (W.map sD).length = W.length := List.length_map ..
    refine Goes.region [4, 7] fun K hK => ?_; simp (maxSteps := 4000000) only [go_sem, ↓reduceIte, reduceCtorEq, zqa, zqb, zqc, zqd, zqe, zqf, zqg, zqh, zqi, zqj, zqk, zql, zqm]
    refine ⟨_, Tryz.call89, (index_str W ⟨#[62]⟩ _ hWl).mono ?_⟩
    rintro e σ1 ⟨rfl, rfl⟩
    simp only [go_sem, ↓reduceIte, reduceCtorEq, zqa, zqb, zqc, zqd, zqe, zqf, zqg, zqh, zqi, zqj, zqk, zql, zqm]
    refine hK _ _ ?_; clear hK K
    refine Goes.seq ?_
    rcases (show (W.findIdx? (fun s => (⟨#[62]⟩ : ByteArray).toList == s.toList) = none) ∨ (W.findIdx? (fun s => (⟨#[62]⟩ : ByteArray).toList == s.toList) = some 0) ∨ (∃ k, W.findIdx? (fun s => (⟨#[62]⟩ : ByteArray).toList == s.toList) = some (k + 1) ∧ isVerb (bL (W.getD 0 ⟨#[]⟩)) = false) ∨ (∃ k, W.findIdx? (fun s => (⟨#[62]⟩ : ByteArray).toList == s.toList) = some (k + 1) ∧ isVerb (bL (W.getD 0 ⟨#[]⟩)) = true) from (by
      cases hk : W.findIdx? (fun s => (⟨#[62]⟩ : ByteArray).toList == s.toList) with
      | none => exact .inl rfl
      | some k =>
        cases k with
        | zero => exact .inr (.inl rfl)
        | succ k =>
          cases hv : isVerb (bL (W.getD 0 ⟨#[]⟩)) with
          | false => exact .inr (.inr (.inl ⟨k, rfl, rfl⟩))
          | true => exact .inr (.inr (.inr ⟨k, rfl, rfl⟩)))) with hk | hk | ⟨k, hk, hv⟩ | ⟨k, hk, hv⟩
    · have hi : idxI (fun s : ByteArray => (⟨#[62]⟩ : ByteArray).toList == s.toList) W = -1 := by unfold idxI; rw [hk]
      have hsn : shapeM s = none := by rw [hsh]; unfold shapeW; rw [hk]
      refine Goes.draw [4, 7, 8] [] [] [] [(0, true), (1, true), (2, true), (4, true), (5, true), (6, true), (3, false), (7, true), (8, true), (9, true), (10, false)] (by kernel_rfl) (by decide) (by kernel_rfl) fun K hK => ?_; simp (maxSteps := 4000000) only [go_sem, ↓reduceIte, reduceCtorEq, zqa, zqb, zqc, zqd, zqe, zqf, zqg, zqh, zqi, zqj, zqk, zql, zqm, hi]
      refine ⟨_, Tryz.call81, (need_calls false _).mono ?_⟩
      rintro e σ1 ⟨rfl, rfl⟩
      simp only [go_sem, ↓reduceIte, reduceCtorEq, zqa, zqb, zqc, zqd, zqe, zqf, zqg, zqh, zqi, zqj, zqk, zql, zqm]
      refine Pan.of hC Tryz.func79 ?_
      rw [hsn]
      exact ⟨rfl, SLe.refl _⟩
    · have hi : idxI (fun s : ByteArray => (⟨#[62]⟩ : ByteArray).toList == s.toList) W = 0 := by unfold idxI; rw [hk]; rfl
      have hsn : shapeM s = none := by rw [hsh]; unfold shapeW; rw [hk]
      refine Goes.draw [4, 7, 8] [] [] [] [(0, true), (1, true), (2, true), (4, true), (5, true), (6, true), (3, false), (7, true), (8, true), (9, true), (10, false)] (by kernel_rfl) (by decide) (by kernel_rfl) fun K hK => ?_; simp (maxSteps := 4000000) only [go_sem, ↓reduceIte, reduceCtorEq, zqa, zqb, zqc, zqd, zqe, zqf, zqg, zqh, zqi, zqj, zqk, zql, zqm, hi]
      refine ⟨_, Tryz.call81, (need_calls false _).mono ?_⟩
      rintro e σ1 ⟨rfl, rfl⟩
      simp only [go_sem, ↓reduceIte, reduceCtorEq, zqa, zqb, zqc, zqd, zqe, zqf, zqg, zqh, zqi, zqj, zqk, zql, zqm]
      refine Pan.of hC Tryz.func79 ?_
      rw [hsn]
      exact ⟨rfl, SLe.refl _⟩
    · have hi : idxI (fun s : ByteArray => (⟨#[62]⟩ : ByteArray).toList == s.toList) W = ((k + 1 : Nat) : Int) := by unfold idxI; rw [hk]
      have hkl : k + 1 < W.length := (List.findIdx?_eq_some_iff_getElem.1 hk).1
      have hk1 : decide (((k + 1 : Nat) : Int) ≥ 1) = true := decide_eq_true (by omega)
      have hsn : shapeM s = none := by rw [hsh]; unfold shapeW; rw [hk]; simp only [hv]; rfl
      have hg := getD_map_lt sD W 0 (by omega)
      have hi0 : (0 : Int) < (W.length : Int) := by omega
      have hv0 : W[0]'(by omega) = W.getD 0 ⟨#[]⟩ := by rw [List.getD_eq_getElem?_getD, List.getElem?_eq_getElem (by omega)]; rfl
      rw [sD, hv0] at hg
      have hmf := verb_none (bL (W.getD 0 ⟨#[]⟩)) hv
      rw [lB_bL] at hmf
      refine Goes.draw [4, 7, 8] [] [] [] [(0, true), (1, true), (2, true), (4, true), (5, true), (6, true), (3, false), (7, false), (8, true), (9, true), (10, false)] (by kernel_rfl) (by decide) (by kernel_rfl) fun K hK => ?_; simp (maxSteps := 4000000) only [go_sem, ↓reduceIte, reduceCtorEq, zqa, zqb, zqc, zqd, zqe, zqf, zqg, zqh, zqi, zqj, zqk, zql, zqm, hi, hk1, hWll, hg, hi0, hmf]
      refine ⟨_, Tryz.call80, (verbs_calls _).mono ?_⟩
      rintro e σ2 ⟨db, hdb, rfl, rfl⟩
      simp only [go_sem, ↓reduceIte, reduceCtorEq, zqa, zqb, zqc, zqd, zqe, zqf, zqg, zqh, zqi, zqj, zqk, zql, zqm, hWll, hg, hi0, hmf, bin_ff131]
      refine ⟨verbs_like _, ?_⟩
      refine ⟨_, Tryz.call81, (need_calls false _).mono ?_⟩
      rintro e σ1 ⟨rfl, rfl⟩
      simp only [go_sem, ↓reduceIte, reduceCtorEq, zqa, zqb, zqc, zqd, zqe, zqf, zqg, zqh, zqi, zqj, zqk, zql, zqm]
      refine Pan.of hC Tryz.func79 ?_
      rw [hsn]
      exact ⟨rfl, sle_push (SLe.refl _) hdb⟩
    · have hi : idxI (fun s : ByteArray => (⟨#[62]⟩ : ByteArray).toList == s.toList) W = ((k + 1 : Nat) : Int) := by unfold idxI; rw [hk]
      have hkl : k + 1 < W.length := (List.findIdx?_eq_some_iff_getElem.1 hk).1
      have hk1 : decide (((k + 1 : Nat) : Int) ≥ 1) = true := decide_eq_true (by omega)
      have hg := getD_map_lt sD W 0 (by omega)
      have hi0 : (0 : Int) < (W.length : Int) := by omega
      have hv0 : W[0]'(by omega) = W.getD 0 ⟨#[]⟩ := by rw [List.getD_eq_getElem?_getD, List.getElem?_eq_getElem (by omega)]; rfl
      rw [sD, hv0] at hg
      obtain ⟨g, hmf⟩ := verb_some (bL (W.getD 0 ⟨#[]⟩)) hv
      rw [lB_bL] at hmf
      refine Goes.draw [4, 7, 8] [] [] [] [(0, true), (1, true), (2, true), (4, true), (5, true), (6, true), (3, false), (7, false), (8, true), (9, true), (10, false)] (by kernel_rfl) (by decide) (by kernel_rfl) fun K hK => ?_; simp (maxSteps := 4000000) only [go_sem, ↓reduceIte, reduceCtorEq, zqa, zqb, zqc, zqd, zqe, zqf, zqg, zqh, zqi, zqj, zqk, zql, zqm, hi, hk1, hWll, hg, hi0, hmf]
      refine ⟨_, Tryz.call80, (verbs_calls _).mono ?_⟩
      rintro e σ2 ⟨db, hdb, rfl, rfl⟩
      simp only [go_sem, ↓reduceIte, reduceCtorEq, zqa, zqb, zqc, zqd, zqe, zqf, zqg, zqh, zqi, zqj, zqk, zql, zqm, hWll, hg, hi0, hmf]
      refine ⟨verbs_like _, ?_⟩
      refine ⟨_, Tryz.call81, (need_calls true _).mono ?_⟩
      rintro e σ1 ⟨rfl, rfl⟩
      simp only [go_sem, ↓reduceIte, reduceCtorEq, zqa, zqb, zqc, zqd, zqe, zqf, zqg, zqh, zqi, zqj, zqk, zql, zqm]
      refine hK _ _ ?_; clear hK K
      refine Goes.le (ELe.refl _) (sle_push (SLe.refl _) hdb) ?_
      have hw2 : IntKind.i64.wrap (((k + 1 : Nat) : Int) + 1) = ((k + 2 : Nat) : Int) := wrap_succ (k + 1) (by omega)
      have htd : List.drop (k + 2) (W.map sD) = (W.drop (k + 2)).map sD := (List.map_drop ..).symm
      have htt : List.take W.length (W.map sD) = W.map sD := List.take_of_length_le (by simp)
      have hou := fun σ => outputs_calls (W.drop (k + 2)) (by rw [List.length_drop]; omega) (fun x hx => hWB x (List.mem_of_mem_drop hx)) σ
      refine Goes.seq ?_
      rcases ho : outsM (W.drop (k + 2)) with _ | ⟨outs, dep⟩
      · rw [ho] at hou
        refine Goes.region [4, 7, 8] fun K hK => ?_; simp (maxSteps := 4000000) only [go_sem, ↓reduceIte, reduceCtorEq, zqa, zqb, zqc, zqd, zqe, zqf, zqg, zqh, zqi, zqj, zqk, zql, zqm, hw2, htd, htt, hWll]
        refine ⟨⟨by omega, by omega, by omega, fun y hy => (plain_sD W y hy).1⟩, ?_⟩
        refine ⟨_, Tryz.call105, (hou _).mono ?_⟩
        rintro e σ3 ⟨rfl, hs3⟩
        simp only [go_sem, ↓reduceIte, reduceCtorEq, zqa, zqb, zqc, zqd, zqe, zqf, zqg, zqh, zqi, zqj, zqk, zql, zqm]
        refine Pan.of hC Tryz.func79 ?_
        rw [show shapeM s = none by rw [hsh]; unfold shapeW; rw [hk]; simp only [hv, ho, if_true]]
        exact ⟨rfl, hs3⟩
      · rw [ho] at hou
        refine Goes.region [4, 7, 8] fun K hK => ?_; simp (maxSteps := 4000000) only [go_sem, ↓reduceIte, reduceCtorEq, zqa, zqb, zqc, zqd, zqe, zqf, zqg, zqh, zqi, zqj, zqk, zql, zqm, hw2, htd, htt, hWll]
        refine ⟨⟨by omega, by omega, by omega, fun y hy => (plain_sD W y hy).1⟩, ?_⟩
        refine ⟨_, Tryz.call105, (hou _).mono ?_⟩
        rintro e σ1 ⟨rfl, rfl⟩
        simp only [go_sem, ↓reduceIte, reduceCtorEq, zqa, zqb, zqc, zqd, zqe, zqf, zqg, zqh, zqi, zqj, zqk, zql, zqm]
        refine hK _ _ ?_; clear hK K
        refine Goes.seq ?_
        by_cases hq : (!(dep.toList == (⟨#[]⟩ : ByteArray).toList)) = ((W.getD 0 ⟨#[]⟩).toList == (⟨#[105, 110, 99]⟩ : ByteArray).toList)
        · refine Goes.region [4, 5, 6, 7, 8] fun K hK => ?_; simp (maxSteps := 4000000) only [go_sem, ↓reduceIte, reduceCtorEq, zqa, zqb, zqc, zqd, zqe, zqf, zqg, zqh, zqi, zqj, zqk, zql, zqm, hWll, hg, hi0]
          simp only [hq, BEq.rfl]
          refine ⟨_, Tryz.call81, (need_calls true _).mono ?_⟩
          rintro e σ1 ⟨rfl, rfl⟩
          simp only [go_sem, ↓reduceIte, reduceCtorEq, zqa, zqb, zqc, zqd, zqe, zqf, zqg, zqh, zqi, zqj, zqk, zql, zqm]
          refine hK _ _ ?_; clear hK K
          refine Goes.seq ?_
          refine Goes.draw [4, 5, 6, 7, 8] [] [] [] [(0, true), (1, true), (2, true), (3, true), (4, true), (5, true), (6, true), (7, true), (8, true), (9, true), (10, true), (11, true), (12, true), (13, true)] (by kernel_rfl) (by decide) (by kernel_rfl) fun K hK => ?_; simp (maxSteps := 4000000) only [go_sem, ↓reduceIte, reduceCtorEq, zqa, zqb, zqc, zqd, zqe, zqf, zqg, zqh, zqi, zqj, zqk, zql, zqm, hWll, hg, hi0]
          have htr : List.drop 1 (List.take (k + 1) (W.map sD)) = ((W.take (k + 1)).drop 1).map sD := by rw [List.map_drop, List.map_take]
          refine ⟨⟨by omega, by omega, fun y hy => (plain_sD W y hy).1⟩, ?_⟩
          simp only [htr]
          refine hK _ _ ?_; clear hK K
          refine Goes.ret hC Tryz.func79 (by simp [go_sem]) ?_
          simp only [go_sem, ↓reduceIte, reduceCtorEq, zqa, zqb, zqc, zqd, zqe, zqf, zqg, zqh, zqi, zqj, zqk, zql, zqm]
          rw [show shapeM s = some ⟨W.getD 0 ⟨#[]⟩, (W.take (k + 1)).drop 1, once, outs, dep⟩ by rw [hsh]; unfold shapeW; rw [hk]; simp only [hv, ho, if_true]; exact if_pos hq]
          exact ⟨rfl, rfl⟩
        · refine Goes.region [4, 5, 6, 7, 8] fun K hK => ?_; simp (maxSteps := 4000000) only [go_sem, ↓reduceIte, reduceCtorEq, zqa, zqb, zqc, zqd, zqe, zqf, zqg, zqh, zqi, zqj, zqk, zql, zqm, hWll, hg, hi0]
          have hq2 : ((!(dep.toList == (⟨#[]⟩ : ByteArray).toList)) == ((W.getD 0 ⟨#[]⟩).toList == (⟨#[105, 110, 99]⟩ : ByteArray).toList)) = false := by rw [beq_eq_false_iff_ne]; exact hq
          simp only [hq2]
          refine ⟨_, Tryz.call81, (need_calls false _).mono ?_⟩
          rintro e σ1 ⟨rfl, rfl⟩
          simp only [go_sem, ↓reduceIte, reduceCtorEq, zqa, zqb, zqc, zqd, zqe, zqf, zqg, zqh, zqi, zqj, zqk, zql, zqm]
          refine Pan.of hC Tryz.func79 ?_
          rw [show shapeM s = none by rw [hsh]; unfold shapeW; rw [hk]; simp only [hv, ho, if_true]; exact if_neg hq]
          exact ⟨rfl, SLe.refl _⟩
end Go.Ab.S16
set_option linter.unusedSimpArgs false
set_option linter.unusedVariables false
set_option linter.constructorNameAsVariable false
namespace Go.Ab.S16
open Go Go.Proofs
theorem guardD_pan (b2 : Nat) (σ : Store) (hb : sget b2 σ = some (.arr 1 [.v (.int .i64 0)])) {R : AMode → Store → Prop}
    (hR : ∀ σ', SLe (sset b2 (.arr 1 [.v (.int .i64 13)]) σ) σ' → R (.pan failD true) σ') : ADCalls Tryz.prog 102 [.ptr b2 1 0 0] (.pan failD false) σ R := by
  unfold failD at hR ⊢
  refine ADCalls.of_body Tryz.func102 rfl Tryz.ntmps102 (by simp) fun C hC => ?_
  refine Goes.seq ?_
  refine Goes.recoverPan (k1 := 4) (k2 := 1) hC rfl rfl rfl rfl rfl rfl (by simp [dstB, lkFree]) (by simp [dstB, lkFree]) fun C hC => ?_
  simp only [go_sem, ↓reduceIte, reduceCtorEq, zqa, zqb, zqc, zqd, zqe, zqf, zqg, zqh, zqi, zqj, zqk, zql, zqm]
  repeat' (first | refine Goes.seq ?_ | refine Goes.skip ?_ | refine Goes.inBlock ?_ | refine Goes.block ?_ | refine Goes.exit rfl ?_ | (refine Goes.region [0, 1] fun K hK => ?_; simp (maxSteps := 4000000) only [go_sem, ↓reduceIte, reduceCtorEq, zqa, zqb, zqc, zqd, zqe, zqf, zqg, zqh, zqi, zqj, zqk, zql, zqm]; refine hK _ _ ?_; clear hK K))
  refine Goes.condT rfl ?_
  repeat refine Goes.seq ?_
  refine Goes.region [0, 1] fun K hK => ?_; simp (maxSteps := 4000000) only [go_sem, ↓reduceIte, reduceCtorEq, zqa, zqb, zqc, zqd, zqe, zqf, zqg, zqh, zqi, zqj, zqk, zql, zqm, hb]
  intro bw hbw
  refine hK _ _ ?_; clear hK K
  repeat refine Goes.seq ?_
  repeat' (first | refine Goes.seq ?_ | refine Goes.skip ?_ | refine Goes.inBlock ?_ | refine Goes.block ?_ | refine Goes.exit rfl ?_ | (refine Goes.region [0, 1, 2, 3] fun K hK => ?_; simp (maxSteps := 4000000) only [go_sem, ↓reduceIte, reduceCtorEq, zqa, zqb, zqc, zqd, zqe, zqf, zqg, zqh, zqi, zqj, zqk, zql, zqm]; refine hK _ _ ?_; clear hK K))
  refine Goes.condF rfl ?_
  refine Goes.skip ?_
  have hne : b2 ≠ bw := fun e => by subst e; rw [hbw] at hb; cases hb
  refine Goes.region [0, 2] fun K hK => ?_; simp (maxSteps := 4000000) only [go_sem, ↓reduceIte, reduceCtorEq, zqa, zqb, zqc, zqd, zqe, zqf, zqg, zqh, zqi, zqj, zqk, zql, zqm, hb, hne]
  refine hK _ _ ?_; clear hK K
  exact Goes.doneD hC Tryz.func102 rfl (hR _ (sle_push (SLe.refl _) (by rw [sget_sset, if_neg hne.symm]; exact hbw)))
theorem guardD_ret (b2 : Nat) (σ : Store) {R : AMode → Store → Prop} (hR : R .ret σ) : ADCalls Tryz.prog 102 [.ptr b2 1 0 0] .ret σ R := by
  refine ADCalls.of_body Tryz.func102 rfl Tryz.ntmps102 (by simp) fun C hC => ?_
  refine Goes.seq ?_
  refine Goes.recoverRet (k1 := 4) (k2 := 1) hC rfl rfl rfl rfl rfl rfl (by simp [dstB, lkFree]) (by simp [dstB, lkFree]) ?_
  simp only [go_sem, ↓reduceIte, reduceCtorEq, zqa, zqb, zqc, zqd, zqe, zqf, zqg, zqh, zqi, zqj, zqk, zql, zqm]
  repeat' (first | refine Goes.seq ?_ | refine Goes.skip ?_ | refine Goes.inBlock ?_ | refine Goes.block ?_ | refine Goes.exit rfl ?_ | (refine Goes.region [0, 1] fun K hK => ?_; simp (maxSteps := 4000000) only [go_sem, ↓reduceIte, reduceCtorEq, zqa, zqb, zqc, zqd, zqe, zqf, zqg, zqh, zqi, zqj, zqk, zql, zqm]; refine hK _ _ ?_; clear hK K))
  refine Goes.condF rfl ?_
  repeat' (first | refine Goes.seq ?_ | refine Goes.skip ?_ | refine Goes.inBlock ?_ | refine Goes.block ?_ | refine Goes.exit rfl ?_ | (refine Goes.region [0] fun K hK => ?_; simp (maxSteps := 4000000) only [go_sem, ↓reduceIte, reduceCtorEq, zqa, zqb, zqc, zqd, zqe, zqf, zqg, zqh, zqi, zqj, zqk, zql, zqm]; refine hK _ _ ?_; clear hK K))
  exact Goes.doneD hC Tryz.func102 rfl hR
theorem guarded_calls (g : FuncId) (caps : List D) (σ : Store) {Rg R : AEnd → Store → Prop} (hcall : ∀ args w, (callFunc g args).run Tryz.prog w = .ok (.enter g args) w) (hg : ACalls Tryz.prog g caps σ Rg)
    (hR : ∀ e σ', Rg e σ' → (e = .ret (.tup []) ∧ R (.ret (.v (.int .i64 0))) σ') ∨ (e = .panic failD ∧ R (.ret (.v (.int .i64 13))) σ')) :
    ACalls Tryz.prog 77 [.clo (.func g) [] caps] σ R := by
  refine ACalls.forget (R := fun e σ'' => ∃ σ', SLe σ' σ'' ∧ R e σ') ?_ fun e σ' h => h
  refine ACalls.of_body Tryz.func77 rfl Tryz.ntmps77 (by simp) fun C hC => ?_
  refine Goes.seq ?_
  refine Goes.region [0] fun K hK => ?_; simp (maxSteps := 4000000) only [go_sem, ↓reduceIte, reduceCtorEq, zqa, zqb, zqc, zqd, zqe, zqf, zqg, zqh, zqi, zqj, zqk, zql, zqm]
  intro b2 hb2
  refine hK _ _ ?_; clear hK K
  refine Goes.seq ?_
  refine Goes.defer (L := [(2, .ptr b2 1 0 0)]) (k1 := 3) hC Tryz.call102 rfl rfl rfl rfl rfl rfl (by decide) rfl rfl (by simp [eget]) (by simp) fun C hC => ?_
  have hfr := hg.frame (σ := (b2, .arr 1 [.v (.int .i64 0)]) :: σ) (ρ := [(b2, .arr 1 [.v (.int .i64 0)])]) (sle_push (SLe.refl _) hb2) (SLe.cons (sget_self ..) (SLe.nil _)) (Apart.cons hb2 (Apart.nil _))
  refine Goes.seq ?_
  refine Goes.region [0, 2] fun K hK => ?_; simp (maxSteps := 4000000) only [go_sem, ↓reduceIte, reduceCtorEq, zqa, zqb, zqc, zqd, zqe, zqf, zqg, zqh, zqi, zqj, zqk, zql, zqm]
  refine ⟨g, hcall, ?_⟩
  simp only [go_sem, ↓reduceIte, reduceCtorEq, zqa, zqb, zqc, zqd, zqe, zqf, zqg, zqh, zqi, zqj, zqk, zql, zqm]
  refine hfr.mono ?_
  rintro e σ2 ⟨σ1, hRg, hap, rfl⟩
  have hb1 : sget b2 σ1 = none := hap b2 (by simp [sget])
  have hb3 : sget b2 (σ1 ++ [(b2, .arr 1 [.v (.int .i64 0)])]) = some (.arr 1 [.v (.int .i64 0)]) := by rw [sget_append_none hb1, sget_self]
  have hsl1 : ∀ x, SLe σ1 (sset b2 x (σ1 ++ [(b2, .arr 1 [.v (.int .i64 0)])])) := fun x b o hb => by
    have hne : b ≠ b2 := fun e => by subst e; rw [hb1] at hb; cases hb
    rw [sget_sset, if_neg hne]; exact sget_append_some hb
  have hrow : ∀ n, sget b2 (sset b2 (.arr 1 [.v (.int .i64 n)]) (σ1 ++ [(b2, .arr 1 [.v (.int .i64 0)])])) = some (.arr 1 [.v (.int .i64 n)]) := fun n => by
    rw [sget_sset, if_pos rfl, hb3]; rfl
  rcases hR e σ1 hRg with ⟨rfl, hret⟩ | ⟨rfl, hret⟩
  · simp only [go_sem, ↓reduceIte, reduceCtorEq, zqa, zqb, zqc, zqd, zqe, zqf, zqg, zqh, zqi, zqj, zqk, zql, zqm]
    refine hK _ _ ?_; clear hK K
    refine Goes.seq ?_
    refine Goes.region [2] fun K hK => ?_; simp (maxSteps := 4000000) only [go_sem, ↓reduceIte, reduceCtorEq, zqa, zqb, zqc, zqd, zqe, zqf, zqg, zqh, zqi, zqj, zqk, zql, zqm, hb3]
    refine hK _ _ ?_; clear hK K
    refine Goes.retL hC Tryz.func77 (guardD_ret b2 _ ?_)
    refine ⟨?_, ?_⟩
    · simp only [go_sem, ↓reduceIte, reduceCtorEq, zqa, zqb, zqc, zqd, zqe, zqf, zqg, zqh, zqi, zqj, zqk, zql, zqm, hrow]
      simp [resPre, go_sem, hrow]
    · refine ⟨σ1, hsl1 _, ?_⟩
      simp only [go_sem, ↓reduceIte, reduceCtorEq, zqa, zqb, zqc, zqd, zqe, zqf, zqg, zqh, zqi, zqj, zqk, zql, zqm, hrow]
      exact hret
  · simp only [go_sem, ↓reduceIte, reduceCtorEq, zqa, zqb, zqc, zqd, zqe, zqf, zqg, zqh, zqi, zqj, zqk, zql, zqm]
    refine Pan.ofL hC Tryz.func77 (guardD_pan b2 _ hb3 fun σ' hle => ?_)
    have hrow2 := hle b2 _ (hrow 13)
    refine ⟨?_, ?_⟩
    · simp [resPre, go_sem, hrow2]
    · refine ⟨σ1, (hsl1 _).trans hle, ?_⟩
      simp only [go_sem, ↓reduceIte, reduceCtorEq, zqa, zqb, zqc, zqd, zqe, zqf, zqg, zqh, zqi, zqj, zqk, zql, zqm, hrow2]
      exact hret
end Go.Ab.S16
set_option linter.unusedSimpArgs false
set_option linter.unusedVariables false
set_option linter.constructorNameAsVariable false
namespace Go.Ab.S16
open Go Go.Proofs Go.RowKit
/-- What a command of a shape makes. -/
def cookR (x : Shp) (decl : List ByteArray) (files : List XFile) : Option XDish :=
  match runV x.args decl files (bL x.verb) with
  | none => none
  | some (b, found) => if b.length ≤ 65536 then some ⟨x.outs.map fun n => ⟨n, b⟩, x.once, x.dep, if (!(x.dep.toList == (⟨#[]⟩ : ByteArray).toList)) = true then lB (printT (x.outs.getD 0 ⟨#[]⟩) found ++ [10]) else ⟨#[]⟩⟩ else none
/-- What a command makes. -/
def cookM (cmd : ByteArray) (decl : List ByteArray) (files : List XFile) : Option XDish :=
  match shapeM cmd with
  | none => none
  | some x => cookR x decl files
/-- The cells that the closure of Cook holds. -/
def cS (bA bB bC bD : Nat) (cmd : ByteArray) (decl : List ByteArray) (files : List XFile) (v : D) : Store := [(bD, .arr 4 [v]), (bC, .arr 1 [.slc (files.map XFile.d)]), (bB, .arr 1 [.slc (decl.map sD)]), (bA, .arr 1 [.v (.string cmd)])]
structure CN (bA bB bC bD : Nat) : Prop where
  ab : bA ≠ bB
  ac : bA ≠ bC
  ad : bA ≠ bD
  bc : bB ≠ bC
  bd : bB ≠ bD
  cd : bC ≠ bD
section
variable {bA bB bC bD : Nat} {cmd : ByteArray} {decl : List ByteArray} {files : List XFile} {v w : D}
theorem cS_d : sget bD (cS bA bB bC bD cmd decl files v) = some (.arr 4 [v]) := sget_self ..
theorem cS_c (h : CN bA bB bC bD) : sget bC (cS bA bB bC bD cmd decl files v) = some (.arr 1 [.slc (files.map XFile.d)]) := by
  unfold cS
  rw [sget_cons, if_neg h.cd, sget_self]
theorem cS_b (h : CN bA bB bC bD) : sget bB (cS bA bB bC bD cmd decl files v) = some (.arr 1 [.slc (decl.map sD)]) := by
  unfold cS
  rw [sget_cons, if_neg h.bd, sget_cons, if_neg h.bc, sget_self]
theorem cS_a (h : CN bA bB bC bD) : sget bA (cS bA bB bC bD cmd decl files v) = some (.arr 1 [.v (.string cmd)]) := by
  unfold cS
  rw [sget_cons, if_neg h.ad, sget_cons, if_neg h.ac, sget_cons, if_neg h.ab, sget_self]
theorem cS_sd : sset bD (.arr 4 [w]) (cS bA bB bC bD cmd decl files v) = cS bA bB bC bD cmd decl files w := by
  unfold cS
  rw [sset_self]
theorem cS_dom {b : Nat} (h : sget b (cS bA bB bC bD cmd decl files v) = none) : sget b (cS bA bB bC bD cmd decl files w) = none := by
  unfold cS at *
  simp only [sget_cons] at *
  repeat' split at h
  all_goals first | cases h | skip
  simp_all
end
theorem outsM_right {ws outs : List ByteArray} {dep : ByteArray} (h : outsM ws = some (outs, dep)) : (∀ n ∈ outs, rightM (bL n) = true) ∧ 0 < outs.length := by
  have key : ∀ {ws outs : List ByteArray} {d dep : ByteArray}, chkO ws d = some (outs, dep) → (∀ n ∈ outs, rightM (bL n) = true) ∧ 0 < outs.length := fun {ws outs d dep} h => by
    unfold chkO at h
    split at h
    · rename_i hc
      cases h
      refine ⟨fun n hn => ?_, hc.2⟩
      obtain ⟨i, hi, rfl⟩ := List.getElem_of_mem hn
      have := hc.1 i hi
      unfold okAt at this
      rw [List.getElem?_eq_getElem hi] at this
      exact (Bool.and_eq_true _ _ ▸ this).1
    · cases h
  unfold outsM at h
  split at h
  · split at h
    · exact key h
    · cases h
  · exact key h
theorem shapeM_spec {cmd : ByteArray} {x : Shp} (h : shapeM cmd = some x) : isVerb (bL x.verb) = true ∧ (∀ n ∈ x.outs, rightM (bL n) = true) ∧ 0 < x.outs.length ∧ ((!(x.dep.toList == (⟨#[]⟩ : ByteArray).toList)) = (x.verb.toList == (⟨#[105, 110, 99]⟩ : ByteArray).toList)) := by
  have key : ∀ {o : Bool} {ws : List ByteArray}, shapeW o ws = some x → isVerb (bL x.verb) = true ∧ (∀ n ∈ x.outs, rightM (bL n) = true) ∧ 0 < x.outs.length ∧ ((!(x.dep.toList == (⟨#[]⟩ : ByteArray).toList)) = (x.verb.toList == (⟨#[105, 110, 99]⟩ : ByteArray).toList)) := fun {o ws} h => by
    unfold shapeW at h
    split at h
    · split at h
      · rename_i hv
        split at h
        · rename_i ho
          split at h
          · rename_i hd
            cases h
            exact ⟨hv, (outsM_right ho).1, (outsM_right ho).2, hd⟩
          · cases h
        · cases h
      · cases h
    · cases h
  unfold shapeM at h
  split at h
  · exact key h
  · exact key h
theorem runV_right {args decl : List ByteArray} {files : List XFile} {verb b : List UInt8} {found : List ByteArray} (h : runV args decl files verb = some (b, found)) : (∀ n ∈ found, rightM (bL n) = true) ∧ found.length ≤ 1000 := by
  have k0 : ∀ {o : Option (List UInt8)}, (o.map fun b => (b, ([] : List ByteArray))) = some (b, found) → (∀ n ∈ found, rightM (bL n) = true) ∧ found.length ≤ 1000 := fun {o} h => by
    cases o with
    | none => cases h
    | some c => cases h; exact ⟨fun n hn => (by cases hn), (by simp)⟩
  unfold runV at h
  repeat' split at h
  · exact k0 h
  · exact k0 h
  · exact k0 h
  · cases h; exact ⟨fun n hn => (by cases hn), (by simp)⟩
  · unfold incM at h
    cases hi : (oneB decl files args).bind fun b => putsD files 11 b ⟨[], [], 0⟩ with
    | none => rw [hi] at h; cases h
    | some s =>
      rw [hi] at h
      cases h
      obtain ⟨b, _, hp⟩ := Option.bind_eq_some_iff.1 hi
      have := putsD_ok files 11 b ⟨[], [], 0⟩ s ⟨by simp, by simp, by simp, by simp⟩ hp
      exact ⟨this.right, Nat.le_trans this.found this.many⟩
  · cases h
theorem right_len {n : ByteArray} (h : rightM (bL n) = true) : (bL n).length ≤ 100 := by
  unfold rightM at h
  rw [Bool.and_eq_true, decide_eq_true_eq, decide_eq_true_eq] at h
  obtain ⟨h0, h1⟩ := h
  rw [← h1]
  unfold cleanM at h0 ⊢
  split
  · simp
  · split
    · simp
    · split
      · simp
      · split
        · simp
        · split
          · simp
          · rename_i h; simpa using h
theorem Views.own2 {σ : Store} {ob : Option Nat} {sz n : Nat} {xs : List D} {v : Value} (hx : oget sz ob σ = some xs) (hn : n ≤ xs.length) : Views σ [.v v, .own ob sz n] [.v v, .slc (xs.take n)] := by
  cases ob with
  | none =>
    simp only [oget, Option.some.injEq] at hx
    subst hx
    refine .le fun w S vs h => ?_
    obtain ⟨v1, vs1, rfl, hv1, hv⟩ := h.cons_inv
    obtain ⟨v2, vs2, rfl, hv2, hv3⟩ := hv.cons_inv
    cases hv2 with
    | own0 => simp only [List.take_nil]; exact .cons hv1 (.cons .slc0 hv3)
  | some b =>
    simp only [oget] at hx
    split at hx
    · rename_i s ys hg
      split at hx
      · rename_i hs
        cases hx; subst hs
        refine .pub hg ?_
        have : pubs b s xs [.v v, .own (some b) s n] = [.v v, .slc (xs.take n)] := by
          simp only [pubs, D.pub]
          rw [if_pos ⟨trivial, trivial, hn⟩]
        rw [this]
        exact .refl _ _
      · cases hx
    · cases hx
end Go.Ab.S16
set_option linter.unusedSimpArgs false
set_option linter.unusedVariables false
set_option linter.constructorNameAsVariable false
namespace Go.Ab.S16
open Go Go.Proofs Go.RowKit
structure CmdOk (cmd : ByteArray) : Prop where
  size : cmd.size ≤ 4294967296
  words : (wordsM cmd).length < 2 ^ 40
  word : ∀ w ∈ wordsM cmd, w.size < 2 ^ 40
  args : ∀ x, shapeM cmd = some x → x.args.length < 2 ^ 16 ∧ (Lib.join (x.args.map (·.data.toList)) [32]).length < 2 ^ 45 ∧ x.outs.length < 2 ^ 20
def dish0 : D := .agg [.own none 2 0, .v (.bool false), .v (.string ⟨#[]⟩), .v (.string ⟨#[]⟩)]
def fD (b : List UInt8) (n : ByteArray) : D := XFile.d ⟨n, b⟩
theorem cook1_calls (kA kB kC kD : Nat) (hN : CN kA kB kC kD) (cmd : ByteArray) (decl : List ByteArray) (files : List XFile) (hcmd : CmdOk cmd) (hfl : files.length < 2 ^ 31) (hfb : ∀ f ∈ files, f.b.length < 2 ^ 20) (hd : decl.length < 2 ^ 40) :
    ACalls Tryz.prog 78 [.ptr kA 1 0 0, .ptr kB 1 0 0, .ptr kC 1 0 0, .ptr kD 4 0 0] (cS kA kB kC kD cmd decl files dish0) (fun e σ' => match cookM cmd decl files with
      | some x => e = .ret (.tup []) ∧ ∃ oo, GrD oo 2 (x.outs.map XFile.d) (cS kA kB kC kD cmd decl files dish0) ∧ σ' = cellsOf oo 2 (x.outs.map XFile.d) ++ cS kA kB kC kD cmd decl files (.agg [.own oo 2 (x.outs.map XFile.d).length, .v (.bool x.once), .v (.string x.dep), .v (.string x.deps)])
      | none => e = .panic failD) := by
  have hsh := fun σ => shape_calls cmd hcmd.size hcmd.words hcmd.word σ
  have ga := cS_a hN (cmd := cmd) (decl := decl) (files := files) (v := dish0)
  have gb := cS_b hN (cmd := cmd) (decl := decl) (files := files) (v := dish0)
  have gc := cS_c hN (cmd := cmd) (decl := decl) (files := files) (v := dish0)
  have gd := cS_d (bA := kA) (bB := kB) (bC := kC) (bD := kD) (cmd := cmd) (decl := decl) (files := files) (v := dish0)
  refine ACalls.of_body Tryz.func78 rfl Tryz.ntmps78 (by simp) fun C hC => ?_
  rcases hs : shapeM cmd with _ | x
  · have hc : cookM cmd decl files = none := by unfold cookM; rw [hs]
    rw [hc] at hC
    refine Goes.seq ?_
    have hp := hsh (cS kA kB kC kD cmd decl files dish0)
    rw [hs] at hp
    refine Goes.region [0, 1, 2, 3] fun K hK => ?_; simp (maxSteps := 4000000) only [go_sem, ↓reduceIte, reduceCtorEq, zqa, zqb, zqc, zqd, zqe, zqf, zqg, zqh, zqi, zqj, zqk, zql, zqm, ga]
    refine ⟨_, Tryz.call79, hp.mono ?_⟩
    rintro e σ1 ⟨rfl, hs1⟩
    simp only [go_sem, ↓reduceIte, reduceCtorEq, zqa, zqb, zqc, zqd, zqe, zqf, zqg, zqh, zqi, zqj, zqk, zql, zqm]
    exact Pan.of hC Tryz.func78 rfl
  · obtain ⟨hv, hor, hol, hdv⟩ := shapeM_spec hs
    obtain ⟨hal, haj, hoc⟩ := hcmd.args x hs
    have hck : cookM cmd decl files = cookR x decl files := by unfold cookM; rw [hs]
    refine Goes.seq ?_
    have hp := hsh (cS kA kB kC kD cmd decl files dish0)
    rw [hs] at hp
    refine Goes.region [0, 1, 2, 3] fun K hK => ?_; simp (maxSteps := 4000000) only [go_sem, ↓reduceIte, reduceCtorEq, zqa, zqb, zqc, zqd, zqe, zqf, zqg, zqh, zqi, zqj, zqk, zql, zqm, ga]
    refine ⟨_, Tryz.call79, hp.mono ?_⟩
    rintro e σ1 ⟨rfl, rfl⟩
    simp only [go_sem, ↓reduceIte, reduceCtorEq, zqa, zqb, zqc, zqd, zqe, zqf, zqg, zqh, zqi, zqj, zqk, zql, zqm, Shp.d]
    refine hK _ _ ?_; clear hK K
    refine Goes.seq ?_
    refine Goes.region [1, 2, 3, 4, 5, 6, 7, 8] fun K hK => ?_; simp (maxSteps := 4000000) only [go_sem, ↓reduceIte, reduceCtorEq, zqa, zqb, zqc, zqd, zqe, zqf, zqg, zqh, zqi, zqj, zqk, zql, zqm, gb, gc]
    intro bc hbc
    refine hK _ _ ?_; clear hK K
    refine Goes.row_le (ys := [.agg [.slc (x.args.map sD), .slc (decl.map sD), .slc (files.map XFile.d), .own none 1 0, .v (.int .i64 0)]]) (fun w S vs h => by
      obtain ⟨v0, vs, rfl, r0, h⟩ := RepL.cons_inv (show RepL w S (.slc (x.args.map sD) :: [.slc (decl.map sD), .slc (files.map XFile.d), .v (.slice none 0 0), .v (.int .i64 0)]) vs from h)
      obtain ⟨v1, vs, rfl, r1, h⟩ := h.cons_inv
      obtain ⟨v2, vs, rfl, r2, h⟩ := h.cons_inv
      obtain ⟨v3, vs, rfl, r3, h⟩ := h.cons_inv
      exact .cons r0 (.cons r1 (.cons r2 (.cons (DLe.nil_own 1 w S v3 r3) h)))) (by simp [D.cells]) ?_
    change Goes C _ _ ((bc, ckR x.args decl files (.own none 1 0) 0) :: cS kA kB kC kD cmd decl files dish0)
    refine Goes.seq ?_
    rcases hr : runV x.args decl files (bL x.verb) with _ | ⟨b, found⟩
    · have hc0 : cookM cmd decl files = none := by rw [hck]; unfold cookR; rw [hr]
      rw [hc0] at hC
      refine Goes.region [3, 4, 6, 7, 8, 9] fun K hK => ?_; simp (maxSteps := 4000000) only [go_sem, ↓reduceIte, reduceCtorEq, zqa, zqb, zqc, zqd, zqe, zqf, zqg, zqh, zqi, zqj, zqk, zql, zqm]
      refine ⟨_, Tryz.call80, (verbs_calls _).mono ?_⟩
      rintro e σ1 ⟨db, hdb, rfl, rfl⟩
      have hdbc : bc ≠ db := fun e => by
        rw [e, sget_cons, if_pos rfl] at hdb; cases hdb
      obtain ⟨g, hmf, hge, hgc⟩ := verb_spec x.args decl files bc ((db, .mp verbsM) :: (bc, ckR x.args decl files (.own none 1 0) 0) :: cS kA kB kC kD cmd decl files dish0) (bL x.verb) hv (by rw [sget_cons, if_neg hdbc, sget_self]) hfl hfb hd hal haj
      rw [lB_bL] at hmf
      rw [hr] at hgc
      simp only [go_sem, ↓reduceIte, reduceCtorEq, zqa, zqb, zqc, zqd, zqe, zqf, zqg, zqh, zqi, zqj, zqk, zql, zqm, hmf]
      refine ⟨verbs_like _, ?_⟩
      refine ⟨g, hge, hgc.mono ?_⟩
      rintro e σ2 ⟨rfl, hk⟩
      simp only [go_sem, ↓reduceIte, reduceCtorEq, zqa, zqb, zqc, zqd, zqe, zqf, zqg, zqh, zqi, zqj, zqk, zql, zqm]
      exact Pan.of hC Tryz.func78 rfl
    · refine Goes.region [3, 4, 6, 7, 8, 9] fun K hK => ?_; simp (maxSteps := 4000000) only [go_sem, ↓reduceIte, reduceCtorEq, zqa, zqb, zqc, zqd, zqe, zqf, zqg, zqh, zqi, zqj, zqk, zql, zqm]
      refine ⟨_, Tryz.call80, (verbs_calls _).mono ?_⟩
      rintro e σ1 ⟨db, hdb, rfl, rfl⟩
      have hdbc : bc ≠ db := fun e => by
        rw [e, sget_cons, if_pos rfl] at hdb; cases hdb
      obtain ⟨g, hmf, hge, hgc⟩ := verb_spec x.args decl files bc ((db, .mp verbsM) :: (bc, ckR x.args decl files (.own none 1 0) 0) :: cS kA kB kC kD cmd decl files dish0) (bL x.verb) hv (by rw [sget_cons, if_neg hdbc, sget_self]) hfl hfb hd hal haj
      rw [lB_bL] at hmf
      rw [hr] at hgc
      simp only [go_sem, ↓reduceIte, reduceCtorEq, zqa, zqb, zqc, zqd, zqe, zqf, zqg, zqh, zqi, zqj, zqk, zql, zqm, hmf]
      refine ⟨verbs_like _, ?_⟩
      refine ⟨g, hge, hgc.mono ?_⟩
      rintro e σ2 ⟨o, fo, many, hgo, hgf, rfl, rfl⟩
      simp only [go_sem, ↓reduceIte, reduceCtorEq, zqa, zqb, zqc, zqd, zqe, zqf, zqg, zqh, zqi, zqj, zqk, zql, zqm]
      have hss : sset bc (ckR x.args decl files (.own fo 1 found.length) many) ((db, .mp verbsM) :: (bc, ckR x.args decl files (.own none 1 0) 0) :: cS kA kB kC kD cmd decl files dish0) = (db, .mp verbsM) :: (bc, ckR x.args decl files (.own fo 1 found.length) many) :: cS kA kB kC kD cmd decl files dish0 := by
        rw [sset_ne hdbc, sset_self]
      rw [hss] at hgo hgf
      simp only [hss]
      refine hK _ _ ?_; clear hK K
      have hdn : sget db ((bc, ckR x.args decl files (.own fo 1 found.length) many) :: cS kA kB kC kD cmd decl files dish0) = none := by
        rw [sget_cons] at hdb ⊢
        split at hdb
        · cases hdb
        · rename_i e; rw [if_neg e]; exact hdb
      have hgf1 := (hgf.drop hdn).1
      have hgo1 : GrD o 1 (b.map bD) (cellsOf fo 1 (found.map sD) ++ ((bc, ckR x.args decl files (.own fo 1 found.length) many) :: cS kA kB kC kD cmd decl files dish0)) := grd_base hgo fun c hc => app_dom hc fun h => by
        rw [sget_cons] at h
        split at h
        · cases h
        · exact h
      have hsl2 : SLe ((bc, ckR x.args decl files (.own fo 1 found.length) many) :: cS kA kB kC kD cmd decl files dish0) ((db, .mp verbsM) :: (bc, ckR x.args decl files (.own fo 1 found.length) many) :: cS kA kB kC kD cmd decl files dish0) := sle_push (SLe.refl _) hdn
      refine Goes.le (ELe.refl _) (SLe.append (SLe.append_left _ _) ((SLe.append (SLe.append_left _ _) (hsl2.trans hgf.sle)).trans hgo.sle)) ?_
      have hon : b.length = (b.map bD).length := (List.length_map ..).symm
      rw [hon]
      refine Goes.rebase [3, 6, 7, 8, 9, 10] ?_
      simp only [go_sem, ↓reduceIte, reduceCtorEq, zqa, zqb, zqc, zqd, zqe, zqf, zqg, zqh, zqi, zqj, zqk, zql, zqm]
      refine Goes.pubSlot 10 rfl hgo1 (fun c hc => ?_) (fun c p hp hk => ?_) ?_
      · have hc2 := hc
        have hfc : fo ≠ some c := own_ne (SLe.append_left _ _) hc
        have h1 : sget c ((bc, ckR x.args decl files (.own fo 1 found.length) many) :: cS kA kB kC kD cmd decl files dish0) = none := by
          rw [sget_append] at hc
          split at hc
          · cases hc
          · exact hc
        have hne : ∀ {b c : Nat} {x : AObj} {τ : Store}, sget b ((c, x) :: τ) = none → b ≠ c ∧ sget b τ = none := fun {b c x τ} h => by
          rw [sget_cons] at h
          split at h
          · cases h
          · rename_i e; exact ⟨e, h⟩
        have h2 := hne h1
        have h3 := hne (show sget c ((kD, _) :: _) = none from h2.2)
        have h4 := hne h3.2
        have h5 := hne h4.2
        have h6 := hne h5.2
        have hpo : ∀ s ys, D.pub c s ys (.own fo 1 found.length) = .own fo 1 found.length := fun s ys => by
          cases fo with
          | none => rfl
          | some k =>
            show (if k = c ∧ 1 = s ∧ found.length ≤ ys.length then _ else _) = _
            rw [if_neg (fun h => hfc (by rw [h.1]))]
        refine PubOK.cells hfc (fun y hy s ys => ?_) (.cons h2.1 (fun s ys => ?_) (.cons h3.1 (fun _ _ => rfl) (.cons h4.1 (fun _ _ => rfl) (.cons h5.1 (fun _ _ => rfl) (.cons h6.1 (fun _ _ => rfl) (.nil c))))))
        · obtain ⟨z, _, rfl⟩ := List.mem_map.1 hy
          rfl
        · unfold ckR
          simp only [AObj.pub, List.map_cons, List.map_nil, D.pub, pubs]
          rw [show D.pub c s ys (.own fo 1 found.length) = .own fo 1 found.length from hpo s ys]
      · simp only [List.mem_cons, List.not_mem_nil, or_false] at hp
        rcases hp with rfl | rfl | rfl | rfl | rfl | rfl
        all_goals first | rfl | exact absurd rfl hk
      simp only [go_sem, ↓reduceIte, reduceCtorEq, zqa, zqb, zqc, zqd, zqe, zqf, zqg, zqh, zqi, zqj, zqk, zql, zqm]
      have hgf2 : ∀ {y : AObj} {w : D}, GrD fo 1 (found.map sD) ((bc, y) :: cS kA kB kC kD cmd decl files w) := fun {y w} => grd_base hgf1 fun c hc => by
        rw [sget_cons] at hc ⊢
        split at hc
        · cases hc
        · rename_i e; rw [if_neg e]; exact cS_dom hc
      have hbcd : kD ≠ bc := fun e => by
        subst e; rw [gd] at hbc; cases hbc
      have gD : ∀ {y : AObj} {w : D}, sget kD (cellsOf fo 1 (found.map sD) ++ ((bc, y) :: cS kA kB kC kD cmd decl files w)) = some (.arr 4 [w]) := fun {y w} => hgf2.keep (by rw [sget_cons, if_neg hbcd, cS_d])
      have sD4 : ∀ {y : AObj} {w z : D}, sset kD (.arr 4 [z]) (cellsOf fo 1 (found.map sD) ++ ((bc, y) :: cS kA kB kC kD cmd decl files w)) = cellsOf fo 1 (found.map sD) ++ ((bc, y) :: cS kA kB kC kD cmd decl files z) := fun {y w z} => by
        rw [hgf2.sset (by rw [sget_cons, if_neg hbcd, cS_d]; rfl), sset_ne hbcd, cS_sd]
      refine Goes.seq ?_
      by_cases hle : b.length ≤ 65536
      · have hdc : decide ((b.length : Int) ≤ 65536) = true := decide_eq_true (by omega)
        refine Goes.region [3, 6, 7, 8, 9, 10] fun K hK => ?_; simp (maxSteps := 4000000) only [go_sem, ↓reduceIte, reduceCtorEq, zqa, zqb, zqc, zqd, zqe, zqf, zqg, zqh, zqi, zqj, zqk, zql, zqm, ← hon]
        simp only [hdc]
        refine ⟨_, Tryz.call81, (need_calls true _).mono ?_⟩
        rintro e σ1 ⟨rfl, rfl⟩
        simp only [go_sem, ↓reduceIte, reduceCtorEq, zqa, zqb, zqc, zqd, zqe, zqf, zqg, zqh, zqi, zqj, zqk, zql, zqm]
        refine hK _ _ ?_; clear hK K
        refine Goes.seq ?_
        unfold dish0
        refine Goes.region [3, 6, 7, 8, 9, 10] fun K hK => ?_; simp (maxSteps := 4000000) only [go_sem, ↓reduceIte, reduceCtorEq, zqa, zqb, zqc, zqd, zqe, zqf, zqg, zqh, zqi, zqj, zqk, zql, zqm, gD, sD4]
        refine hK _ _ ?_; clear hK K
        refine Goes.seq ?_
        refine Goes.seq ?_
        have holl : (x.outs.map sD).length = x.outs.length := List.length_map ..
        refine Goes.region [3, 7, 8, 9, 10] fun K hK => ?_; simp (maxSteps := 4000000) only [go_sem, ↓reduceIte, reduceCtorEq, zqa, zqb, zqc, zqd, zqe, zqf, zqg, zqh, zqi, zqj, zqk, zql, zqm, holl]
        refine hK _ _ ?_; clear hK K
        refine Goes.block ?_
        refine Goes.rebase [3, 7, 8, 9, 10, 37, 38, 39] ?_
        simp only [go_sem, ↓reduceIte, reduceCtorEq, zqa, zqb, zqc, zqd, zqe, zqf, zqg, zqh, zqi, zqj, zqk, zql, zqm]
        refine Goes.while (fun (i : Nat) env' σ'' => ∃ oo : Option Nat, (i ≤ x.outs.length ∧ GrD oo 2 ((x.outs.take i).map (fD b)) (cellsOf fo 1 (found.map sD) ++ ((bc, ckR x.args decl files (.own fo 1 found.length) many) :: cS kA kB kC kD cmd decl files dish0))) ∧ env' = [(3, .ptr kD 4 0 0), (7, .slc (x.outs.map sD)), (8, .v (.string x.dep)), (9, .ptr bc 5 0 0), (10, .slc (b.map bD)), (37, .slc (x.outs.map sD)), (38, .v (.int .i64 (x.outs.length : Int))), (39, .v (.int .i64 (i : Int)))] ∧ σ'' = cellsOf oo 2 ((x.outs.take i).map (fD b)) ++ (cellsOf fo 1 (found.map sD) ++ ((bc, ckR x.args decl files (.own fo 1 found.length) many) :: cS kA kB kC kD cmd decl files (.agg [.own oo 2 i, .v (.bool x.once), .v (.string ⟨#[]⟩), .v (.string ⟨#[]⟩)])))) (fun (i : Nat) => x.outs.length - i) 0 ⟨none, ⟨Nat.zero_le _, GrD.nil _ _⟩, rfl, rfl⟩ ?_
        rintro i env' σ'' ⟨oo, ⟨hi, hgr⟩, rfl, rfl⟩ ih
        have ih1 := ih
        have hgr2 : ∀ {y : AObj} {w : D}, GrD oo 2 ((x.outs.take i).map (fD b)) (cellsOf fo 1 (found.map sD) ++ ((bc, y) :: cS kA kB kC kD cmd decl files w)) := fun {y w} => grd_base hgr fun c hc => app_dom hc fun h => by
          rw [sget_cons] at h ⊢
          split at h
          · cases h
          · rename_i e; rw [if_neg e]; exact cS_dom h
        have gD2 : ∀ {y : AObj} {w : D}, sget kD (cellsOf oo 2 ((x.outs.take i).map (fD b)) ++ (cellsOf fo 1 (found.map sD) ++ ((bc, y) :: cS kA kB kC kD cmd decl files w))) = some (.arr 4 [w]) := fun {y w} => hgr2.keep gD
        have sD2 : ∀ {y : AObj} {w z : D}, sset kD (.arr 4 [z]) (cellsOf oo 2 ((x.outs.take i).map (fD b)) ++ (cellsOf fo 1 (found.map sD) ++ ((bc, y) :: cS kA kB kC kD cmd decl files w))) = cellsOf oo 2 ((x.outs.take i).map (fD b)) ++ (cellsOf fo 1 (found.map sD) ++ ((bc, y) :: cS kA kB kC kD cmd decl files z)) := fun {y w z} => by
          rw [hgr2.sset (by rw [gD]; rfl), sD4]
        have hdrop : ∀ {y : AObj} {w : D}, SLe (cellsOf oo 2 ((x.outs.take i).map (fD b)) ++ cS kA kB kC kD cmd decl files w) (cellsOf oo 2 ((x.outs.take i).map (fD b)) ++ (cellsOf fo 1 (found.map sD) ++ ((bc, y) :: cS kA kB kC kD cmd decl files w))) := fun {y w} => SLe.append (SLe.append_left _ _) (((sle_push (SLe.refl _) (cS_dom hbc)).trans hgf2.sle).trans hgr2.sle)
        refine Goes.seq ?_
        refine Goes.region [3, 7, 8, 9, 10, 37, 38, 39] fun K hK => ?_; simp (maxSteps := 4000000) only [go_sem, ↓reduceIte, reduceCtorEq, zqa, zqb, zqc, zqd, zqe, zqf, zqg, zqh, zqi, zqj, zqk, zql, zqm]
        refine hK _ _ ?_; clear hK K
        refine Goes.seq ?_
        refine Goes.cond rfl (fun h40 => ?_) (fun h40 => ?_)
        · have hlt : i < x.outs.length := by simpa using h40
          have hg := getD_map_lt sD x.outs i hlt
          rw [sD] at hg
          have hi0 : (0 : Int) ≤ (i : Int) := by omega
          have hi1 : (i : Int) < (x.outs.length : Int) := by omega
          have ho2 : ∀ {y : AObj} {w : D}, oget 2 oo (cellsOf oo 2 ((x.outs.take i).map (fD b)) ++ (cellsOf fo 1 (found.map sD) ++ ((bc, y) :: cS kA kB kC kD cmd decl files w))) = some ((x.outs.take i).map (fD b)) := fun {y w} => (hgr2 (y := y) (w := w)).oget
          have hd2 : ∀ {y : AObj} {w : D}, sdelo oo (cellsOf oo 2 ((x.outs.take i).map (fD b)) ++ (cellsOf fo 1 (found.map sD) ++ ((bc, y) :: cS kA kB kC kD cmd decl files w))) = cellsOf fo 1 (found.map sD) ++ ((bc, y) :: cS kA kB kC kD cmd decl files w) := fun {y w} => (hgr2 (y := y) (w := w)).sdel
          have htl : ((x.outs.take i).map (fD b)).length = i := by simp; omega
          have htk : List.take i ((x.outs.take i).map (fD b)) = (x.outs.take i).map (fD b) := List.take_of_length_le (by omega)
          refine Goes.skip ?_
          refine Goes.seq ?_
          refine Goes.block ?_
          refine Goes.seq ?_
          refine Goes.region [3, 7, 8, 9, 10, 37, 38, 39] fun K hK => ?_; simp (maxSteps := 4000000) only [go_sem, ↓reduceIte, reduceCtorEq, zqa, zqb, zqc, zqd, zqe, zqf, zqg, zqh, zqi, zqj, zqk, zql, zqm, holl, hg, hi0, hi1]
          refine hK _ _ ?_; clear hK K
          refine Goes.draw [3, 7, 8, 9, 10, 12, 37, 38, 39] [49] [kD] [9] [(0, true), (1, true), (2, true), (3, true), (4, false), (5, true), (6, true), (7, false), (8, true), (9, false)] (by kernel_rfl) (by decide) (by kernel_rfl) fun K hK => ?_; simp (maxSteps := 4000000) only [go_sem, ↓reduceIte, reduceCtorEq, zqa, zqb, zqc, zqd, zqe, zqf, zqg, zqh, zqi, zqj, zqk, zql, zqm, gD2]
          refine ⟨_, Tryz.call67, (clone_byte (b.map bD) _ (plain_bD b) (by rw [List.length_map]; omega)).mono ?_⟩
          rintro e σ1 ⟨rfl, rfl⟩
          simp only [go_sem, ↓reduceIte, reduceCtorEq, zqa, zqb, zqc, zqd, zqe, zqf, zqg, zqh, zqi, zqj, zqk, zql, zqm, gD2, ho2, hd2, htk]
          refine ⟨⟨by decide, by decide⟩, ⟨by omega, fun y hy => by rw [hy]; exact ⟨rfl, rfl⟩, by rw [htl]; omega, by rw [htl]; omega⟩, fun ob hz hf => ?_⟩
          have hmf : (x.outs.take i).map (fD b) ++ [D.agg [D.v (Value.string x.outs[i]), D.slc (b.map bD)]] = (x.outs.take (i + 1)).map (fD b) := by rw [List.take_succ_eq_append_getElem hlt, List.map_append]; rfl
          simp only [hmf] at hz ⊢
          have hgr3 : ∀ {y : AObj} {w : D}, GrD ob 2 ((x.outs.take (i + 1)).map (fD b)) (cellsOf fo 1 (found.map sD) ++ ((bc, y) :: cS kA kB kC kD cmd decl files w)) := fun {y w} => ⟨fun c hc => app_dom (hf c hc) fun h => (by
            rw [sget_cons] at h ⊢
            split at h
            · cases h
            · rename_i e; rw [if_neg e]; exact cS_dom h), hz⟩
          have gD3 : ∀ {y : AObj} {w : D}, sget kD (cellsOf ob 2 ((x.outs.take (i + 1)).map (fD b)) ++ (cellsOf fo 1 (found.map sD) ++ ((bc, y) :: cS kA kB kC kD cmd decl files w))) = some (.arr 4 [w]) := fun {y w} => hgr3.keep gD
          have sD3 : ∀ {y : AObj} {w z : D}, sset kD (.arr 4 [z]) (cellsOf ob 2 ((x.outs.take (i + 1)).map (fD b)) ++ (cellsOf fo 1 (found.map sD) ++ ((bc, y) :: cS kA kB kC kD cmd decl files w))) = cellsOf ob 2 ((x.outs.take (i + 1)).map (fD b)) ++ (cellsOf fo 1 (found.map sD) ++ ((bc, y) :: cS kA kB kC kD cmd decl files z)) := fun {y w z} => by
            rw [hgr3.sset (by rw [gD]; rfl), sD4]
          have hl3 : ((x.outs.take (i + 1)).map (fD b)).length = i + 1 := by simp; omega
          refine ⟨?_, ?_⟩
          · rintro b1 rfl
            rw [gD3, gD2]
          simp only [go_sem, ↓reduceIte, reduceCtorEq, zqa, zqb, zqc, zqd, zqe, zqf, zqg, zqh, zqi, zqj, zqk, zql, zqm, gD3, sD3, hl3]
          refine hK _ _ ?_; clear hK K
          refine Goes.inBlock ?_
          refine Goes.region [3, 7, 8, 9, 10, 37, 38, 39] fun K hK => ?_; simp (maxSteps := 4000000) only [go_sem, ↓reduceIte, reduceCtorEq, zqa, zqb, zqc, zqd, zqe, zqf, zqg, zqh, zqi, zqj, zqk, zql, zqm]
          refine hK _ _ ?_; clear hK K
          refine Goes.rebase [3, 7, 8, 9, 10, 37, 38, 39] ?_
          simp only [go_sem, ↓reduceIte, reduceCtorEq, zqa, zqb, zqc, zqd, zqe, zqf, zqg, zqh, zqi, zqj, zqk, zql, zqm]
          rw [wrap_succ i (by omega)]
          exact ih (i + 1) _ _ ⟨ob, ⟨by omega, hgr3⟩, rfl, rfl⟩ (by omega)
        · have hie : i = x.outs.length := by simp at h40; omega
          subst hie
          have hxs : (x.outs.take x.outs.length).map (fD b) = (x.outs.map fun n => (⟨n, b⟩ : XFile)).map XFile.d := by rw [List.take_length, List.map_map]; rfl
          have hxl : ((x.outs.map fun n => (⟨n, b⟩ : XFile)).map XFile.d).length = x.outs.length := by simp
          have hgF : GrD oo 2 ((x.outs.map fun n => (⟨n, b⟩ : XFile)).map XFile.d) (cS kA kB kC kD cmd decl files dish0) := by
            rw [← hxs]
            exact grd_base hgr fun c hc => by
              have h1 : sget c ((bc, ckR x.args decl files (.own fo 1 found.length) many) :: cS kA kB kC kD cmd decl files dish0) = none := by
                rw [sget_append] at hc
                split at hc
                · cases hc
                · exact hc
              rw [sget_cons] at h1
              split at h1
              · cases h1
              · exact h1
          refine Goes.exit rfl ?_
          refine Goes.seq ?_
          refine Goes.region [3, 7, 8, 9] fun K hK => ?_; simp (maxSteps := 4000000) only [go_sem, ↓reduceIte, reduceCtorEq, zqa, zqb, zqc, zqd, zqe, zqf, zqg, zqh, zqi, zqj, zqk, zql, zqm]
          refine hK _ _ ?_; clear hK K
          refine Goes.cond rfl (fun h54 => ?_) (fun h54 => ?_)
          · have hdt : (!(x.dep.toList == (⟨#[]⟩ : ByteArray).toList)) = true := h54
            have hcs : cookM cmd decl files = some ⟨x.outs.map fun n => ⟨n, b⟩, x.once, x.dep, lB (printT (x.outs.getD 0 ⟨#[]⟩) found ++ [10])⟩ := by rw [hck]; unfold cookR; rw [hr]; simp only [if_pos hle, if_pos hdt]
            rw [hcs] at hC
            have hg0 := getD_map_lt sD x.outs 0 (by omega)
            have h00 : x.outs[0]'(by omega) = x.outs.getD 0 ⟨#[]⟩ := by rw [List.getD_eq_getElem?_getD, List.getElem?_eq_getElem (by omega)]; rfl
            rw [sD, h00] at hg0
            have hi00 : (0 : Int) < (x.outs.length : Int) := by omega
            have hr0 := hor _ (List.getElem_mem (show 0 < x.outs.length by omega))
            rw [h00] at hr0
            have gBc : ∀ {y : AObj} {w : D}, sget bc (cellsOf oo 2 ((x.outs.take x.outs.length).map (fD b)) ++ (cellsOf fo 1 (found.map sD) ++ ((bc, y) :: cS kA kB kC kD cmd decl files w))) = some y := fun {y w} => hgr2.keep (hgf2.keep (sget_self ..))
            obtain ⟨hfr, hfl2⟩ := runV_right hr
            have hof : ∀ {y : AObj} {w : D}, oget 1 fo (cellsOf oo 2 ((x.outs.take x.outs.length).map (fD b)) ++ (cellsOf fo 1 (found.map sD) ++ ((bc, y) :: cS kA kB kC kD cmd decl files w))) = some (found.map sD) := fun {y w} => by
              rw [oget_app (cells_none (hgr2 (y := y) (w := w)))]
              exact hgf2.oget
            have hpr := print_calls (x.outs.getD 0 ⟨#[]⟩) found [] (by have := right_len hr0; omega) (by omega) (fun d hd => by have := right_len (hfr d hd); omega) (fun d hd => by
              rcases List.mem_cons.1 hd with rfl | hd
              · exact hr0
              · exact hfr d hd)
            have hfm : List.take found.length (found.map sD) = found.map sD := List.take_of_length_le (by simp)
            have hvw : ∀ {y : AObj} {w : D}, Views (cellsOf oo 2 ((x.outs.take x.outs.length).map (fD b)) ++ (cellsOf fo 1 (found.map sD) ++ ((bc, y) :: cS kA kB kC kD cmd decl files w))) [.v (.string (x.outs.getD 0 ⟨#[]⟩)), .own fo 1 found.length] [.v (.string (x.outs.getD 0 ⟨#[]⟩)), .slc (found.map sD)] := fun {y w} => by
              have := Views.own2 (v := .string (x.outs.getD 0 ⟨#[]⟩)) (hof (y := y) (w := w)) (n := found.length) (by simp)
              rw [hfm] at this; exact this
            refine Goes.seq ?_
            refine Goes.region [3, 7, 8, 9] fun K hK => ?_; simp (maxSteps := 4000000) only [go_sem, ↓reduceIte, reduceCtorEq, zqa, zqb, zqc, zqd, zqe, zqf, zqg, zqh, zqi, zqj, zqk, zql, zqm, gD2, sD2]
            refine hK _ _ ?_; clear hK K
            refine Goes.draw [3, 7, 9] [] [bc] [] [(0, true), (1, true), (2, true), (3, true), (4, true), (5, true), (6, true), (7, false), (8, true), (9, true), (10, true), (11, true), (12, false)] (by kernel_rfl) (by decide) (by kernel_rfl) fun K hK => ?_; simp (maxSteps := 4000000) only [go_sem, ↓reduceIte, reduceCtorEq, zqa, zqb, zqc, zqd, zqe, zqf, zqg, zqh, zqi, zqj, zqk, zql, zqm, holl, hg0, hi00, gBc, ckR]
            refine ⟨_, Tryz.call82, (ACalls.lend hvw rfl hpr).mono ?_⟩
            rintro e σ1 ⟨rfl, rfl⟩
            simp only [go_sem, ↓reduceIte, reduceCtorEq, zqa, zqb, zqc, zqd, zqe, zqf, zqg, zqh, zqi, zqj, zqk, zql, zqm, gD2, sD2]
            refine ⟨fun b1 hb1 => (by subst hb1; rw [gBc, gBc]), ?_⟩
            refine hK _ _ ?_; clear hK K
            refine Goes.le (ELe.refl _) hdrop ?_
            refine Goes.done hC Tryz.func78 (by simp [go_sem]) ?_
            simp only [go_sem, ↓reduceIte, reduceCtorEq, zqa, zqb, zqc, zqd, zqe, zqf, zqg, zqh, zqi, zqj, zqk, zql, zqm]
            exact ⟨oo, hgF, by rw [hxs, hxl]⟩
          · have hdt : (!(x.dep.toList == (⟨#[]⟩ : ByteArray).toList)) = false := h54
            have hcs : cookM cmd decl files = some ⟨x.outs.map fun n => ⟨n, b⟩, x.once, x.dep, ⟨#[]⟩⟩ := by rw [hck]; unfold cookR; rw [hr]; simp only [if_pos hle, hdt]; rfl
            rw [hcs] at hC
            have hde : x.dep = ⟨#[]⟩ := by
              have h1 : x.dep.toList = (⟨#[]⟩ : ByteArray).toList := by simpa using hdt
              rw [tl_data, tl_data] at h1
              have e : ∀ x y : ByteArray, x.data = y.data → x = y := fun x y h => by cases x; cases y; cases h; rfl
              exact e _ _ (Array.toList_inj.1 h1)
            refine Goes.le (ELe.refl _) hdrop ?_
            refine Goes.skip ?_
            refine Goes.done hC Tryz.func78 (by simp [go_sem]) ?_
            simp only [go_sem, ↓reduceIte, reduceCtorEq, zqa, zqb, zqc, zqd, zqe, zqf, zqg, zqh, zqi, zqj, zqk, zql, zqm]
            exact ⟨oo, hgF, by rw [hxs, hxl, hde]⟩
      · have hdc : decide ((b.length : Int) ≤ 65536) = false := decide_eq_false (by omega)
        have hc0 : cookM cmd decl files = none := by rw [hck]; unfold cookR; rw [hr]; exact if_neg hle
        rw [hc0] at hC
        refine Goes.region [3, 6, 7, 8, 9, 10] fun K hK => ?_; simp (maxSteps := 4000000) only [go_sem, ↓reduceIte, reduceCtorEq, zqa, zqb, zqc, zqd, zqe, zqf, zqg, zqh, zqi, zqj, zqk, zql, zqm, ← hon]
        simp only [hdc]
        refine ⟨_, Tryz.call81, (need_calls false _).mono ?_⟩
        rintro e σ1 ⟨rfl, rfl⟩
        simp only [go_sem, ↓reduceIte, reduceCtorEq, zqa, zqb, zqc, zqd, zqe, zqf, zqg, zqh, zqi, zqj, zqk, zql, zqm]
        exact Pan.of hC Tryz.func78 rfl
end Go.Ab.S16
set_option linter.unusedSimpArgs false
set_option linter.unusedVariables false
set_option linter.constructorNameAsVariable false
namespace Go.Ab.S16
open Go Go.Proofs Go.RowKit
def XDish.none : XDish := ⟨[], false, ⟨#[]⟩, ⟨#[]⟩⟩
def cookD : Option XDish → D
  | some x => .tup [x.d, eD 0]
  | none => .tup [XDish.none.d, eD 13]
theorem cook_own (cmd : ByteArray) (decl : List ByteArray) (files : List XFile) (hcmd : CmdOk cmd) (hfl : files.length < 2 ^ 31) (hfb : ∀ f ∈ files, f.b.length < 2 ^ 20) (hd : decl.length < 2 ^ 40) :
    ACalls Tryz.prog 42 [.v (.string cmd), .slc (decl.map sD), .slc (files.map XFile.d)] [] (fun e σ' => match cookM cmd decl files with
      | some x => ∃ oo, GrD oo 2 (x.outs.map XFile.d) [] ∧ e = .ret (.tup [.agg [.own oo 2 (x.outs.map XFile.d).length, .v (.bool x.once), .v (.string x.dep), .v (.string x.deps)], eD 0]) ∧ σ' = cellsOf oo 2 (x.outs.map XFile.d)
      | none => e = .ret (.tup [.agg [.v (.slice none 0 0), .v (.bool false), .v (.string ⟨#[]⟩), .v (.string ⟨#[]⟩)], eD 13]) ∧ σ' = []) := by
  refine ACalls.forget (R := fun e σ' => match cookM cmd decl files with
      | some x => ∃ oo, GrD oo 2 (x.outs.map XFile.d) [] ∧ e = .ret (.tup [.agg [.own oo 2 (x.outs.map XFile.d).length, .v (.bool x.once), .v (.string x.dep), .v (.string x.deps)], eD 0]) ∧ SLe (cellsOf oo 2 (x.outs.map XFile.d)) σ'
      | none => e = .ret (.tup [.agg [.v (.slice none 0 0), .v (.bool false), .v (.string ⟨#[]⟩), .v (.string ⟨#[]⟩)], eD 13])) ?_ (fun e σ' h => ?_)
  rotate_left
  · cases hc : cookM cmd decl files with
    | none => rw [hc] at h; exact ⟨[], SLe.nil _, h, rfl⟩
    | some x =>
      rw [hc] at h
      obtain ⟨oo, h1, h2, h3⟩ := h
      exact ⟨_, h3, oo, h1, h2, rfl⟩
  refine ACalls.of_body Tryz.func42 rfl Tryz.ntmps42 (by simp) fun C hC => ?_
  refine Goes.seq ?_
  refine Goes.region [0, 1, 2] fun K hK => ?_; simp (maxSteps := 4000000) only [go_sem, ↓reduceIte, reduceCtorEq, zqa, zqb, zqc, zqd, zqe, zqf, zqg, zqh, zqi, zqj, zqk, zql, zqm]
  intro kA kB hB kC hC' kR hR
  refine hK _ _ ?_; clear hK K
  refine Goes.seq ?_
  refine Goes.region [3, 4, 5, 6] fun K hK => ?_; simp (maxSteps := 4000000) only [go_sem, ↓reduceIte, reduceCtorEq, zqa, zqb, zqc, zqd, zqe, zqf, zqg, zqh, zqi, zqj, zqk, zql, zqm]
  intro kD hD
  refine hK _ _ ?_; clear hK K
  have hne : ∀ {b c : Nat} {x : AObj} {τ : Store}, sget b ((c, x) :: τ) = none → b ≠ c ∧ sget b τ = none := fun {b c x τ} h => by
    rw [sget_cons] at h
    split at h
    · cases h
    · rename_i e; exact ⟨e, h⟩
  have hN : CN kA kB kC kD := ⟨Ne.symm (hne hB).1, Ne.symm (hne (hne hC').2).1, Ne.symm (hne (hne (hne (hne hD).2).2).2).1, Ne.symm (hne hC').1, Ne.symm (hne (hne (hne hD).2).2).1, Ne.symm (hne (hne hD).2).1⟩
  refine Goes.row_le (ys := [dish0]) (fun w S vs h => by
    obtain ⟨v0, vs, rfl, r0, h⟩ := RepL.cons_inv (show RepL w S (.v (.slice none 0 0) :: [.v (.bool false), .v (.string ⟨#[]⟩), .v (.string ⟨#[]⟩)]) vs from h)
    exact .cons (DLe.nil_own 2 w S v0 r0) h) (by simp [D.cells, dish0]) ?_
  obtain ⟨zR, hzR⟩ : ∃ z : D, z = .agg [.v (.slice none 0 0), .v (.bool false), .v (.string ByteArray.empty), .v (.string ByteArray.empty)] := ⟨_, rfl⟩
  have hRA := (hne (hne (hne hR).2).2).1
  have hRB := (hne (hne hR).2).1
  have hRC := (hne hR).1
  have hDR := (hne hD).1
  have hap : Apart [(kR, .arr 4 [zR])] (cS kA kB kC kD cmd decl files dish0) := .cons (by
    unfold cS
    rw [sget_cons, if_neg (Ne.symm hDR), sget_cons, if_neg hRC, sget_cons, if_neg hRB, sget_cons, if_neg hRA]; rfl) (Apart.nil _)
  have hs1 : SLe (cS kA kB kC kD cmd decl files dish0) [(kD, .arr 4 [dish0]), (kR, .arr 4 [zR]), (kC, .arr 1 [.slc (files.map XFile.d)]), (kB, .arr 1 [.slc (decl.map sD)]), (kA, .arr 1 [.v (.string cmd)])] := by
    unfold cS
    exact sle_cons2 (sle_push (SLe.refl _) (by rw [sget_cons, if_neg hRC, sget_cons, if_neg hRB, sget_cons, if_neg hRA]; rfl))
  have hs2 : SLe [(kR, .arr 4 [zR])] [(kD, .arr 4 [dish0]), (kR, .arr 4 [zR]), (kC, .arr 1 [.slc (files.map XFile.d)]), (kB, .arr 1 [.slc (decl.map sD)]), (kA, .arr 1 [.v (.string cmd)])] := SLe.cons (by rw [sget_cons, if_neg (Ne.symm hDR), sget_self]) (SLe.nil _)
  have hfr := (cook1_calls kA kB kC kD hN cmd decl files hcmd hfl hfb hd).frame hs1 hs2 hap
  have hgu := guarded_calls 78 [.ptr kA 1 0 0, .ptr kB 1 0 0, .ptr kC 1 0 0, .ptr kD 4 0 0] _ (R := fun e σ' => match cookM cmd decl files with
      | some x => e = .ret (.v (.int .i64 0)) ∧ ∃ oo, GrD oo 2 (x.outs.map XFile.d) (cS kA kB kC kD cmd decl files dish0) ∧ (Apart [(kR, .arr 4 [zR])] (cellsOf oo 2 (x.outs.map XFile.d) ++ cS kA kB kC kD cmd decl files (.agg [.own oo 2 (x.outs.map XFile.d).length, .v (.bool x.once), .v (.string x.dep), .v (.string x.deps)]))) ∧ σ' = (cellsOf oo 2 (x.outs.map XFile.d) ++ cS kA kB kC kD cmd decl files (.agg [.own oo 2 (x.outs.map XFile.d).length, .v (.bool x.once), .v (.string x.dep), .v (.string x.deps)])) ++ [(kR, .arr 4 [zR])]
      | none => e = .ret (.v (.int .i64 13)) ∧ sget kR σ' = some (.arr 4 [zR])) Tryz.call78 hfr (fun e σ' h => by
    obtain ⟨σ1, h1, h2, rfl⟩ := h
    cases hc : cookM cmd decl files with
    | none =>
      rw [hc] at h1
      refine .inr ⟨h1, rfl, ?_⟩
      rw [sget_append_none (h2 kR (by rw [sget_self]; simp)), sget_self]
    | some x =>
      rw [hc] at h1
      obtain ⟨rfl, oo, hg, rfl⟩ := h1
      exact .inl ⟨rfl, rfl, oo, hg, h2, rfl⟩)
  rw [← hzR]
  refine Goes.seq ?_
  rcases hc : cookM cmd decl files with _ | x
  · rw [hc] at hgu hC
    refine Goes.region [3, 4, 5, 6, 8] fun K hK => ?_; simp (maxSteps := 4000000) only [go_sem, ↓reduceIte, reduceCtorEq, zqa, zqb, zqc, zqd, zqe, zqf, zqg, zqh, zqi, zqj, zqk, zql, zqm]
    refine ⟨_, Tryz.call77, hgu.mono ?_⟩
    rintro e σ1 ⟨rfl, hz⟩
    simp only [go_sem, ↓reduceIte, reduceCtorEq, zqa, zqb, zqc, zqd, zqe, zqf, zqg, zqh, zqi, zqj, zqk, zql, zqm]
    refine hK _ _ ?_; clear hK K
    refine Goes.seq ?_
    refine Goes.seq ?_
    refine Goes.region [6, 8, 9] fun K hK => ?_; simp (maxSteps := 4000000) only [go_sem, ↓reduceIte, reduceCtorEq, zqa, zqb, zqc, zqd, zqe, zqf, zqg, zqh, zqi, zqj, zqk, zql, zqm]
    refine hK _ _ ?_; clear hK K
    refine Goes.condT rfl ?_
    refine Goes.seq ?_
    refine Goes.region [6, 9] fun K hK => ?_; simp (maxSteps := 4000000) only [go_sem, ↓reduceIte, reduceCtorEq, zqa, zqb, zqc, zqd, zqe, zqf, zqg, zqh, zqi, zqj, zqk, zql, zqm, hz, hzR]
    refine hK _ _ ?_; clear hK K
    have hzr : ∀ r, sget kR (sset kR (.arr 4 [r]) σ1) = some (.arr 4 [r]) := fun r => by rw [sget_sset, if_pos rfl, hz]; rfl
    refine Goes.ret hC Tryz.func42 (by simp [go_sem, hzr]) ?_
    simp only [go_sem, ↓reduceIte, reduceCtorEq, zqa, zqb, zqc, zqd, zqe, zqf, zqg, zqh, zqi, zqj, zqk, zql, zqm, hzr]
    rfl
  · rw [hc] at hgu hC
    refine Goes.region [3, 4, 5, 6, 8] fun K hK => ?_; simp (maxSteps := 4000000) only [go_sem, ↓reduceIte, reduceCtorEq, zqa, zqb, zqc, zqd, zqe, zqf, zqg, zqh, zqi, zqj, zqk, zql, zqm]
    refine ⟨_, Tryz.call77, hgu.mono ?_⟩
    rintro e σ1 ⟨rfl, oo, hg, hapR, rfl⟩
    simp only [go_sem, ↓reduceIte, reduceCtorEq, zqa, zqb, zqc, zqd, zqe, zqf, zqg, zqh, zqi, zqj, zqk, zql, zqm]
    refine hK _ _ ?_; clear hK K
    refine Goes.seq ?_
    refine Goes.seq ?_
    refine Goes.region [6, 8, 9] fun K hK => ?_; simp (maxSteps := 4000000) only [go_sem, ↓reduceIte, reduceCtorEq, zqa, zqb, zqc, zqd, zqe, zqf, zqg, zqh, zqi, zqj, zqk, zql, zqm]
    refine hK _ _ ?_; clear hK K
    refine Goes.condF rfl ?_
    refine Goes.skip ?_
    refine Goes.seq ?_
    obtain ⟨W, hW⟩ : ∃ W : D, W = .agg [.own oo 2 (x.outs.map XFile.d).length, .v (.bool x.once), .v (.string x.dep), .v (.string x.deps)] := ⟨_, rfl⟩
    rw [← hW] at hapR ⊢
    have hgW : GrD oo 2 (x.outs.map XFile.d) (cS kA kB kC kD cmd decl files W) := grd_base hg fun b hb => cS_dom hb
    have hkR := hapR kR (by rw [sget_self]; simp)
    have gD5 : ∀ r, sget kD (cellsOf oo 2 (x.outs.map XFile.d) ++ cS kA kB kC kD cmd decl files W ++ [(kR, .arr 4 [r])]) = some (.arr 4 [.agg [.own oo 2 (x.outs.map XFile.d).length, .v (.bool x.once), .v (.string x.dep), .v (.string x.deps)]]) := fun r => by
      rw [← hW]; exact sget_append_some (hgW.keep cS_d)
    have gR5 : ∀ r, sget kR (cellsOf oo 2 (x.outs.map XFile.d) ++ cS kA kB kC kD cmd decl files W ++ [(kR, .arr 4 [r])]) = some (.arr 4 [r]) := fun r => by
      rw [sget_append_none hkR, sget_self]
    have sR5 : ∀ r r', sset kR (.arr 4 [r']) (cellsOf oo 2 (x.outs.map XFile.d) ++ cS kA kB kC kD cmd decl files W ++ [(kR, .arr 4 [r])]) = cellsOf oo 2 (x.outs.map XFile.d) ++ cS kA kB kC kD cmd decl files W ++ [(kR, .arr 4 [r'])] := fun r r' => by
      rw [sset_app hkR, sset_self]
    have gR6 : ∀ r, sget kR (cellsOf oo 2 (x.outs.map XFile.d) ++ (cS kA kB kC kD cmd decl files W ++ [(kR, .arr 4 [r])])) = some (.arr 4 [r]) := fun r => by rw [← List.append_assoc]; exact gR5 r
    rw [hzR]
    refine Goes.region [6, 8] fun K hK => ?_; simp (maxSteps := 4000000) only [go_sem, ↓reduceIte, reduceCtorEq, zqa, zqb, zqc, zqd, zqe, zqf, zqg, zqh, zqi, zqj, zqk, zql, zqm, gD5, gR5, sR5]
    refine hK _ _ ?_; clear hK K
    refine Goes.ret hC Tryz.func42 (by simp [go_sem, gR6]) ?_
    simp only [go_sem, ↓reduceIte, reduceCtorEq, zqa, zqb, zqc, zqd, zqe, zqf, zqg, zqh, zqi, zqj, zqk, zql, zqm, gR5]
    exact ⟨oo, ⟨fun c hc => rfl, hg.zero⟩, rfl, (SLe.append_left _ _).trans (SLe.append_left _ _)⟩
theorem cook_calls (cmd : ByteArray) (decl : List ByteArray) (files : List XFile) (hcmd : CmdOk cmd) (hfl : files.length < 2 ^ 31) (hfb : ∀ f ∈ files, f.b.length < 2 ^ 20) (hd : decl.length < 2 ^ 40) (σ : Store) :
    ACalls Tryz.prog 42 [.v (.string cmd), .slc (decl.map sD), .slc (files.map XFile.d)] σ (fun e σ' => e = .ret (cookD (cookM cmd decl files)) ∧ σ' = σ) := by
  have h := cook_own cmd decl files hcmd hfl hfb hd
  have h2 : ACalls Tryz.prog 42 [.v (.string cmd), .slc (decl.map sD), .slc (files.map XFile.d)] [] (fun e σ' => (e = .ret (cookD (cookM cmd decl files)) ∧ σ' = []) ∨ ∃ x b, cookM cmd decl files = some x ∧ e = .ret (.tup [.agg [.own (some b) 2 (x.outs.map XFile.d).length, .v (.bool x.once), .v (.string x.dep), .v (.string x.deps)], eD 0]) ∧ σ' = [(b, .arr 2 (x.outs.map XFile.d))]) := by
    refine h.ret_le fun e σ' hR => ?_
    cases hc : cookM cmd decl files with
    | none =>
      rw [hc] at hR
      obtain ⟨rfl, rfl⟩ := hR
      refine .inr ⟨_, _, rfl, fun w S v hv => ?_, .inl ⟨rfl, rfl⟩⟩
      cases hv with
      | tup hr =>
        obtain ⟨v0, vs, rfl, r0, hr2⟩ := hr.cons_inv
        cases r0 with
        | agg r0 =>
          obtain ⟨v1, vs1, rfl, r1, r2⟩ := RepL.cons_inv (show RepL w S (.v (.slice none 0 0) :: [.v (.bool false), .v (.string ⟨#[]⟩), .v (.string ⟨#[]⟩)]) _ from r0)
          exact .tup (.cons (.agg (.cons (DLe.nil_slc w S v1 r1) r2)) hr2)
    | some x =>
      rw [hc] at hR
      obtain ⟨oo, hg, rfl, rfl⟩ := hR
      cases oo with
      | some b => exact .inl (.inr ⟨x, b, rfl, rfl, rfl⟩)
      | none =>
        have hx := hg.zero rfl
        refine .inr ⟨_, _, rfl, fun w S v hv => ?_, .inl ⟨rfl, rfl⟩⟩
        cases hv with
        | tup hr =>
          obtain ⟨v0, vs, rfl, r0, hr2⟩ := hr.cons_inv
          cases r0 with
          | agg r0 =>
            obtain ⟨v1, vs1, rfl, r1, r2⟩ := r0.cons_inv
            refine .tup (.cons (.agg (.cons ?_ r2)) hr2)
            rw [hx]
            exact DLe.own_slc _ _ w S v1 r1
  refine h2.pub1 (R' := fun e => e = .ret (cookD (cookM cmd decl files))) (fun e σ' hR => ?_) σ
  rcases hR with h3 | ⟨x, b, hc, rfl, rfl⟩
  · exact .inl h3
  · refine .inr ⟨_, b, 2, _, rfl, rfl, ?_⟩
    rw [hc]
    unfold cookD XDish.d eD
    simp only [D.pub, pubs, true_and]
    rw [if_pos (Nat.le_refl _), List.take_length]
end Go.Ab.S16
set_option linter.unusedSimpArgs false
set_option linter.unusedVariables false
set_option linter.constructorNameAsVariable false
namespace Go.Ab.S16
open Go Go.Proofs Go.RowKit
theorem clone_fileO (xs : List D) (σ : Store) (hp : ∀ x ∈ xs, x.cells.length = 2 ∧ x.plain = true) (hl : xs.length < 2 ^ 40) :
    ACalls Tryz.prog 39 [.slc xs] σ (fun e σ' => ∃ o, GrD o 2 xs σ ∧ e = .ret (.own o 2 xs.length) ∧ σ' = cellsOf o 2 xs ++ σ) := by
  refine ACalls.ret_le (R := fun e σ' => (∃ o, GrD o 2 xs σ ∧ e = .ret (.own o 2 xs.length) ∧ σ' = cellsOf o 2 xs ++ σ) ∨ (xs = [] ∧ e = .ret (.v (.slice none 0 0)) ∧ σ' = σ)) ?_ fun e σ' h => ?_
  rotate_left
  · rcases h with h | ⟨rfl, rfl, rfl⟩
    · exact .inl h
    · exact .inr ⟨_, _, rfl, DLe.nil_own 2, none, GrD.nil _ _, rfl, rfl⟩
  refine ACalls.of_body Tryz.func39 rfl Tryz.ntmps39 (by simp) fun C hC => ?_
  refine Goes.seq ?_
  refine Goes.region [0] fun K hK => ?_; simp (maxSteps := 4000000) only [go_sem, ↓reduceIte, reduceCtorEq, zqa, zqb, zqc, zqd, zqe, zqf, zqg, zqh, zqi, zqj, zqk, zql, zqm]
  refine hK _ _ ?_; clear hK K
  refine Goes.seq ?_
  refine Goes.seq ?_
  refine Goes.region [0] fun K hK => ?_; simp (maxSteps := 4000000) only [go_sem, ↓reduceIte, reduceCtorEq, zqa, zqb, zqc, zqd, zqe, zqf, zqg, zqh, zqi, zqj, zqk, zql, zqm]
  intro t ht
  refine hK _ _ ?_; clear hK K
  refine Goes.cond rfl (fun h4 => ?_) (fun h4 => ?_)
  · have hx : xs = [] := by
      cases xs with
      | nil => rfl
      | cons a l => have := ht (by simp); rw [h4] at this; cases this
    refine Goes.seq ?_
    refine Goes.region [] fun K hK => ?_; simp (maxSteps := 4000000) only [go_sem, ↓reduceIte, reduceCtorEq, zqa, zqb, zqc, zqd, zqe, zqf, zqg, zqh, zqi, zqj, zqk, zql, zqm]
    refine hK _ _ ?_; clear hK K
    refine Goes.ret hC Tryz.func39 (by simp [go_sem]) ?_
    simp only [go_sem, ↓reduceIte, reduceCtorEq, zqa, zqb, zqc, zqd, zqe, zqf, zqg, zqh, zqi, zqj, zqk, zql, zqm]
    exact .inr hx
  · refine Goes.skip ?_
    refine Goes.seq ?_
    refine Goes.region [0] fun K hK => ?_; simp (maxSteps := 4000000) only [go_sem, ↓reduceIte, reduceCtorEq, zqa, zqb, zqc, zqd, zqe, zqf, zqg, zqh, zqi, zqj, zqk, zql, zqm]
    refine ⟨by decide, fun b hb => ⟨⟨hp, by omega, by omega⟩, fun ob hz hf => ?_⟩⟩
    rw [sdel_fresh hb] at hf ⊢
    refine hK _ _ ?_; clear hK K
    refine Goes.ret hC Tryz.func39 (by simp [go_sem]) ?_
    simp only [go_sem, ↓reduceIte, reduceCtorEq, zqa, zqb, zqc, zqd, zqe, zqf, zqg, zqh, zqi, zqj, zqk, zql, zqm]
    exact .inl ⟨ob, ⟨hf, hz⟩, rfl, rfl⟩
theorem plain_file (l : List XFile) : ∀ y ∈ l.map XFile.d, y.cells.length = 2 ∧ y.plain = true := plain_mapF XFile.d 2 (fun _ => ⟨rfl, rfl⟩) l
theorem oget_grd {o oa : Option Nat} {sz s : Nat} {xs ys : List D} {σ : Store} (hgr : GrD o sz xs σ) (hx : oget s oa σ = some ys) : oget s oa (cellsOf o sz xs ++ σ) = some ys := by
  rw [oget_app fun c hc => ?_, hx]
  subst hc
  cases o with
  | none => rfl
  | some k =>
    have hk := hgr.fresh k rfl
    have : c ≠ k := fun e => by
      subst e
      simp only [oget, hk] at hx
      cases hx
    show sget c [(k, _)] = none
    rw [sget_cons, if_neg this]; rfl
theorem concat2_file (oa om : Option Nat) (A M : List XFile) (σ : Store) (ha : oget 2 oa σ = some (A.map XFile.d)) (hm : oget 2 om σ = some (M.map XFile.d)) (hla : A.length ≤ 1000) (hlm : M.length ≤ 1000) :
    ACalls Tryz.prog 41 [.slc [.own oa 2 A.length, .own om 2 M.length]] σ (fun e σ' => ∃ o, GrD o 2 ((A ++ M).map XFile.d) σ ∧ e = .ret (.own o 2 (A ++ M).length) ∧ σ' = cellsOf o 2 ((A ++ M).map XFile.d) ++ σ) := by
  have hg0 : ∀ {α : Type} (x y d : α), [x, y].getD 0 d = x := fun _ _ _ => rfl
  have hg1 : ∀ {α : Type} (x y d : α), [x, y].getD 1 d = y := fun _ _ _ => rfl
  have hA : List.take A.length (A.map XFile.d) = A.map XFile.d := List.take_of_length_le (by simp)
  have hM : List.take M.length (M.map XFile.d) = M.map XFile.d := List.take_of_length_le (by simp)
  have hAl : A.length ≤ (A.map XFile.d).length := by simp
  have hMl : M.length ≤ (M.map XFile.d).length := by simp
  refine ACalls.of_body Tryz.func41 rfl Tryz.ntmps41 (by simp) fun C hC => ?_
  obtain ⟨T, hT⟩ : ∃ T : Nat → List XFile, T = fun i => if i = 0 then [] else if i = 1 then A else A ++ M := ⟨_, rfl⟩
  have hT0 : T 0 = [] := by rw [hT]; rfl
  have hT1 : T 1 = A := by rw [hT]; rfl
  have hT2 : T 2 = A ++ M := by rw [hT]; rfl
  refine Goes.seq ?_
  refine Goes.region [0] fun K hK => ?_; simp (maxSteps := 4000000) only [go_sem, ↓reduceIte, reduceCtorEq, zqa, zqb, zqc, zqd, zqe, zqf, zqg, zqh, zqi, zqj, zqk, zql, zqm]
  refine hK _ _ ?_; clear hK K
  refine Goes.seq ?_
  refine Goes.region [0] fun K hK => ?_; simp (maxSteps := 4000000) only [go_sem, ↓reduceIte, reduceCtorEq, zqa, zqb, zqc, zqd, zqe, zqf, zqg, zqh, zqi, zqj, zqk, zql, zqm]
  refine hK _ _ ?_; clear hK K
  refine Goes.seq ?_
  refine Goes.seq ?_
  refine Goes.region [0, 3] fun K hK => ?_; simp (maxSteps := 4000000) only [go_sem, ↓reduceIte, reduceCtorEq, zqa, zqb, zqc, zqd, zqe, zqf, zqg, zqh, zqi, zqj, zqk, zql, zqm]
  refine hK _ _ ?_; clear hK K
  refine Goes.block ?_
  refine Goes.rebase [0, 3, 9, 10, 11] ?_
  simp only [go_sem, ↓reduceIte, reduceCtorEq, zqa, zqb, zqc, zqd, zqe, zqf, zqg, zqh, zqi, zqj, zqk, zql, zqm]
  refine Goes.while (fun (i : Nat) env' σ'' => (i ≤ 2) ∧ env' = [(0, .slc [.own oa 2 A.length, .own om 2 M.length]), (3, .v (.int .i64 ((T i).length : Int))), (9, .slc [.own oa 2 A.length, .own om 2 M.length]), (10, .v (.int .i64 2)), (11, .v (.int .i64 (i : Int)))] ∧ σ = σ'') (fun (i : Nat) => 2 - i) 0 ⟨by omega, by rw [hT0]; rfl, rfl⟩ ?_
  rintro i env' σ'' ⟨hi, rfl, rfl⟩ ih
  have ih1 := ih
  refine Goes.seq ?_
  refine Goes.region [0, 3, 9, 10, 11] fun K hK => ?_; simp (maxSteps := 4000000) only [go_sem, ↓reduceIte, reduceCtorEq, zqa, zqb, zqc, zqd, zqe, zqf, zqg, zqh, zqi, zqj, zqk, zql, zqm]
  refine hK _ _ ?_; clear hK K
  refine Goes.seq ?_
  refine Goes.cond rfl (fun h12 => ?_) (fun h12 => ?_)
  · have hlt : i < 2 := by
      have := h12
      simp at this; omega
    refine Goes.skip ?_
    refine Goes.seq ?_
    refine Goes.block ?_
    refine Goes.seq ?_
    rcases (show i = 0 ∨ i = 1 by omega) with rfl | rfl
    · refine Goes.region [0, 3, 9, 10, 11] fun K hK => ?_; simp (maxSteps := 4000000) only [go_sem, ↓reduceIte, reduceCtorEq, zqa, zqb, zqc, zqd, zqe, zqf, zqg, zqh, zqi, zqj, zqk, zql, zqm]
      refine ⟨⟨by decide, by decide⟩, ?_⟩
      refine hK _ _ ?_; clear hK K
      refine Goes.seq ?_
      have hw : IntKind.i64.wrap (((T 0).length : Int) + (A.length : Int)) = ((T 1).length : Int) := by
        rw [hT0, hT1, wrap_in _ (by simp only [List.length_nil]; omega) (by simp only [List.length_nil]; omega)]; simp
      have hneg : decide (((T 1).length : Int) < 0) = false := by simp
      refine Goes.region [0, 3, 5, 9, 10, 11] fun K hK => ?_; simp (maxSteps := 4000000) only [go_sem, ↓reduceIte, reduceCtorEq, zqa, zqb, zqc, zqd, zqe, zqf, zqg, zqh, zqi, zqj, zqk, zql, zqm, hw]
      refine hK _ _ ?_; clear hK K
      refine Goes.seq ?_
      refine Goes.region [0, 3, 9, 10, 11] fun K hK => ?_; simp (maxSteps := 4000000) only [go_sem, ↓reduceIte, reduceCtorEq, zqa, zqb, zqc, zqd, zqe, zqf, zqg, zqh, zqi, zqj, zqk, zql, zqm, hneg]
      refine hK _ _ ?_; clear hK K
      refine Goes.condF rfl ?_
      refine Goes.skip ?_
      refine Goes.inBlock ?_
      refine Goes.region [0, 3, 9, 10, 11] fun K hK => ?_; simp (maxSteps := 4000000) only [go_sem, ↓reduceIte, reduceCtorEq, zqa, zqb, zqc, zqd, zqe, zqf, zqg, zqh, zqi, zqj, zqk, zql, zqm]
      refine hK _ _ ?_; clear hK K
      refine Goes.rebase [0, 3, 9, 10, 11] ?_
      simp only [go_sem, ↓reduceIte, reduceCtorEq, zqa, zqb, zqc, zqd, zqe, zqf, zqg, zqh, zqi, zqj, zqk, zql, zqm]
      rw [wrap_succ 0 (by omega)]
      exact ih 1 _ _ ⟨by omega, rfl, rfl⟩ (by omega)
    · refine Goes.region [0, 3, 9, 10, 11] fun K hK => ?_; simp (maxSteps := 4000000) only [go_sem, ↓reduceIte, reduceCtorEq, zqa, zqb, zqc, zqd, zqe, zqf, zqg, zqh, zqi, zqj, zqk, zql, zqm]
      refine ⟨⟨by decide, by decide⟩, ?_⟩
      refine hK _ _ ?_; clear hK K
      refine Goes.seq ?_
      have hw : IntKind.i64.wrap (((T 1).length : Int) + (M.length : Int)) = ((T 2).length : Int) := by
        rw [hT1, hT2, List.length_append, wrap_in _ (by omega) (by omega)]; omega
      have hneg : decide (((T 2).length : Int) < 0) = false := by simp
      refine Goes.region [0, 3, 5, 9, 10, 11] fun K hK => ?_; simp (maxSteps := 4000000) only [go_sem, ↓reduceIte, reduceCtorEq, zqa, zqb, zqc, zqd, zqe, zqf, zqg, zqh, zqi, zqj, zqk, zql, zqm, hw]
      refine hK _ _ ?_; clear hK K
      refine Goes.seq ?_
      refine Goes.region [0, 3, 9, 10, 11] fun K hK => ?_; simp (maxSteps := 4000000) only [go_sem, ↓reduceIte, reduceCtorEq, zqa, zqb, zqc, zqd, zqe, zqf, zqg, zqh, zqi, zqj, zqk, zql, zqm, hneg]
      refine hK _ _ ?_; clear hK K
      refine Goes.condF rfl ?_
      refine Goes.skip ?_
      refine Goes.inBlock ?_
      refine Goes.region [0, 3, 9, 10, 11] fun K hK => ?_; simp (maxSteps := 4000000) only [go_sem, ↓reduceIte, reduceCtorEq, zqa, zqb, zqc, zqd, zqe, zqf, zqg, zqh, zqi, zqj, zqk, zql, zqm]
      refine hK _ _ ?_; clear hK K
      refine Goes.rebase [0, 3, 9, 10, 11] ?_
      simp only [go_sem, ↓reduceIte, reduceCtorEq, zqa, zqb, zqc, zqd, zqe, zqf, zqg, zqh, zqi, zqj, zqk, zql, zqm]
      rw [wrap_succ 1 (by omega)]
      exact ih 2 _ _ ⟨by omega, rfl, rfl⟩ (by omega)
  · have : i = 2 := by
      have := h12
      simp at this; omega
    subst this
    have hTl : (T 2).length ≤ 2000 := by rw [hT2, List.length_append]; omega
    refine Goes.exit rfl ?_
    refine Goes.seq ?_
    refine Goes.region [0, 3] fun K hK => ?_; simp (maxSteps := 4000000) only [go_sem, ↓reduceIte, reduceCtorEq, zqa, zqb, zqc, zqd, zqe, zqf, zqg, zqh, zqi, zqj, zqk, zql, zqm]
    refine ⟨_, Tryz.call76, (grow_file _ σ (by omega) (by omega)).mono ?_⟩
    rintro e σ1 ⟨o, hgr, rfl, rfl⟩
    simp only [go_sem, ↓reduceIte, reduceCtorEq, zqa, zqb, zqc, zqd, zqe, zqf, zqg, zqh, zqi, zqj, zqk, zql, zqm]
    refine hK _ _ ?_; clear hK K
    refine Goes.seq ?_
    refine Goes.seq ?_
    refine Goes.region [0, 6] fun K hK => ?_; simp (maxSteps := 4000000) only [go_sem, ↓reduceIte, reduceCtorEq, zqa, zqb, zqc, zqd, zqe, zqf, zqg, zqh, zqi, zqj, zqk, zql, zqm]
    refine hK _ _ ?_; clear hK K
    refine Goes.block ?_
    refine Goes.rebase [6, 25, 26, 27] ?_
    simp only [go_sem, ↓reduceIte, reduceCtorEq, zqa, zqb, zqc, zqd, zqe, zqf, zqg, zqh, zqi, zqj, zqk, zql, zqm]
    refine Goes.while (fun (i : Nat) env' σ'' => ∃ o : Option Nat, (i ≤ 2 ∧ GrD o 2 ((T i).map XFile.d) σ) ∧ env' = [(6, .own o 2 ((T i).map XFile.d).length), (25, .slc [.own oa 2 A.length, .own om 2 M.length]), (26, .v (.int .i64 2)), (27, .v (.int .i64 (i : Int)))] ∧ σ'' = cellsOf o 2 ((T i).map XFile.d) ++ σ) (fun (i : Nat) => 2 - i) 0 ⟨o, ⟨by omega, by rw [hT0]; exact hgr⟩, by rw [hT0]; rfl, by rw [hT0]; rfl⟩ ?_
    rintro i env' σ'' ⟨o, ⟨hi, hgr⟩, rfl, rfl⟩ ih
    have ih2 := ih
    refine Goes.seq ?_
    refine Goes.region [6, 25, 26, 27] fun K hK => ?_; simp (maxSteps := 4000000) only [go_sem, ↓reduceIte, reduceCtorEq, zqa, zqb, zqc, zqd, zqe, zqf, zqg, zqh, zqi, zqj, zqk, zql, zqm]
    refine hK _ _ ?_; clear hK K
    refine Goes.seq ?_
    refine Goes.cond rfl (fun h28 => ?_) (fun h28 => ?_)
    · have hlt : i < 2 := by
        have := h28
        simp at this; omega
      have ho := hgr.oget
      have hd := hgr.sdel
      have hsa := oget_grd hgr ha
      have hsm := oget_grd hgr hm
      have htk : List.take ((T i).map XFile.d).length ((T i).map XFile.d) = (T i).map XFile.d := List.take_of_length_le (Nat.le_refl _)
      refine Goes.skip ?_
      refine Goes.seq ?_
      refine Goes.block ?_
      refine Goes.seq ?_
      rcases (show i = 0 ∨ i = 1 by omega) with rfl | rfl
      · refine Goes.region [6, 25, 26, 27] fun K hK => ?_; simp (maxSteps := 4000000) only [go_sem, ↓reduceIte, reduceCtorEq, zqa, zqb, zqc, zqd, zqe, zqf, zqg, zqh, zqi, zqj, zqk, zql, zqm]
        refine ⟨⟨by decide, by decide⟩, ?_⟩
        refine hK _ _ ?_; clear hK K
        refine Goes.region [6, 8, 25, 26, 27] fun K hK => ?_; simp (maxSteps := 4000000) only [go_sem, ↓reduceIte, reduceCtorEq, zqa, zqb, zqc, zqd, zqe, zqf, zqg, zqh, zqi, zqj, zqk, zql, zqm, ho, hd, htk, hsa, hsm, hAl, hMl, hA, hM]
        refine ⟨⟨Nat.le_refl _, plain_file A, by simp only [List.length_map, hT0, List.length_nil]; omega, by simp only [List.length_map, hT0, List.length_nil]; omega⟩, fun ob hz hf => ?_⟩
        refine hK _ _ ?_; clear hK K
        refine Goes.inBlock ?_
        refine Goes.region [6, 25, 26, 27] fun K hK => ?_; simp (maxSteps := 4000000) only [go_sem, ↓reduceIte, reduceCtorEq, zqa, zqb, zqc, zqd, zqe, zqf, zqg, zqh, zqi, zqj, zqk, zql, zqm]
        refine hK _ _ ?_; clear hK K
        refine Goes.rebase [6, 25, 26, 27] ?_
        simp only [go_sem, ↓reduceIte, reduceCtorEq, zqa, zqb, zqc, zqd, zqe, zqf, zqg, zqh, zqi, zqj, zqk, zql, zqm]
        have e1 : (T 0).map XFile.d ++ A.map XFile.d = (T 1).map XFile.d := by rw [hT0, hT1]; rfl
        rw [wrap_succ 0 (by omega), e1]
        exact ih 1 _ _ ⟨ob, ⟨by omega, by rw [← e1]; exact hgr.app hz hf⟩, rfl, rfl⟩ (by omega)
      · refine Goes.region [6, 25, 26, 27] fun K hK => ?_; simp (maxSteps := 4000000) only [go_sem, ↓reduceIte, reduceCtorEq, zqa, zqb, zqc, zqd, zqe, zqf, zqg, zqh, zqi, zqj, zqk, zql, zqm]
        refine ⟨⟨by decide, by decide⟩, ?_⟩
        refine hK _ _ ?_; clear hK K
        refine Goes.region [6, 8, 25, 26, 27] fun K hK => ?_; simp (maxSteps := 4000000) only [go_sem, ↓reduceIte, reduceCtorEq, zqa, zqb, zqc, zqd, zqe, zqf, zqg, zqh, zqi, zqj, zqk, zql, zqm, ho, hd, htk, hsa, hsm, hAl, hMl, hA, hM]
        refine ⟨⟨Nat.le_refl _, plain_file M, by simp only [List.length_map, hT1]; omega, by simp only [List.length_map, hT1]; omega⟩, fun ob hz hf => ?_⟩
        refine hK _ _ ?_; clear hK K
        refine Goes.inBlock ?_
        refine Goes.region [6, 25, 26, 27] fun K hK => ?_; simp (maxSteps := 4000000) only [go_sem, ↓reduceIte, reduceCtorEq, zqa, zqb, zqc, zqd, zqe, zqf, zqg, zqh, zqi, zqj, zqk, zql, zqm]
        refine hK _ _ ?_; clear hK K
        refine Goes.rebase [6, 25, 26, 27] ?_
        simp only [go_sem, ↓reduceIte, reduceCtorEq, zqa, zqb, zqc, zqd, zqe, zqf, zqg, zqh, zqi, zqj, zqk, zql, zqm]
        have e1 : (T 1).map XFile.d ++ M.map XFile.d = (T 2).map XFile.d := by rw [hT1, hT2, List.map_append]
        rw [wrap_succ 1 (by omega), e1]
        exact ih 2 _ _ ⟨ob, ⟨by omega, by rw [← e1]; exact hgr.app hz hf⟩, rfl, rfl⟩ (by omega)
    · have : i = 2 := by
        have := h28
        simp at this; omega
      subst this
      rw [hT2] at hgr ⊢
      refine Goes.exit rfl ?_
      refine Goes.seq ?_
      refine Goes.region [6] fun K hK => ?_; simp (maxSteps := 4000000) only [go_sem, ↓reduceIte, reduceCtorEq, zqa, zqb, zqc, zqd, zqe, zqf, zqg, zqh, zqi, zqj, zqk, zql, zqm]
      refine hK _ _ ?_; clear hK K
      refine Goes.ret hC Tryz.func41 (by simp [go_sem]) ?_
      simp only [go_sem, ↓reduceIte, reduceCtorEq, zqa, zqb, zqc, zqd, zqe, zqf, zqg, zqh, zqi, zqj, zqk, zql, zqm]
      exact ⟨o, hgr, by rw [List.length_map], rfl⟩
end Go.Ab.S16
set_option linter.unusedSimpArgs false
set_option linter.unusedVariables false
set_option linter.constructorNameAsVariable false
namespace Go.Ab.S16
open Go Go.Proofs Go.RowKit
def edgeOf (g : XGr) (n : Nat) : XEdge := g.man.edges.getD n ⟨[], [], [], [], ⟨#[]⟩, ⟨#[]⟩⟩
/-- The files that lie for an edge. -/
def filesFor (g : XGr) (l made : List XFile) (n : Nat) : List XFile := kept (farB g n) (kept (ownMadeB g) l ++ made)
/-- What an edge makes; an error's number. -/
def evalStep (g : XGr) (l : List XFile) (n : Nat) (made : List XFile) : Nat ⊕ List XFile :=
  if (edgeOf g n).needs.any (missB g l) = true then .inl 6
  else match cookM (edgeOf g n).cmd ((edgeOf g n).ins ++ (edgeOf g n).impl) (filesFor g l made n) with
    | none => .inl 13
    | some x => if ((x.dep.toList == (edgeOf g n).dep.toList) && fitB (edgeOf g n).outs x.outs) = true then .inr (made ++ x.outs) else .inl 13
def evalGo (g : XGr) (l : List XFile) : List Nat → List XFile → Nat ⊕ List XFile
  | [], made => .inr made
  | n :: r, made => match evalStep g l n made with
    | .inl c => .inl c
    | .inr made' => evalGo g l r made'
def targetsOr (g : XGr) (ts : List ByteArray) : List ByteArray := if ts.length = 0 then targetsL g else ts
/-- What a graph's edges make. -/
def evalG (g : XGr) (l : List XFile) (ts : List ByteArray) : Nat ⊕ List XFile :=
  if wrongB g = true then .inl 5 else match planL g (targetsOr g ts) with
    | .inl c => .inl c
    | .inr plan => if (targetsOr g ts).any (missB g l) = true then .inl 6 else evalGo g l plan []
/-- What a manifest makes. -/
def evalM (m : XMan) (l : List XFile) (ts : List ByteArray) : Nat ⊕ List XFile := match newG m with
  | .inl c => .inl c
  | .inr g => evalG g l ts
theorem orderF_ok (ah : List (List Nat)) (sm : List Nat) : ∀ (f : Nat) (out : List Nat), (∀ n ∈ out, n ∈ sm) → (∀ n ∈ orderF ah sm f out, n ∈ sm) ∧ (orderF ah sm f out).length ≤ out.length + f
  | 0, out, h => ⟨h, Nat.le_refl _⟩
  | f + 1, out, h => by
    unfold orderF
    split
    · rename_i n hn
      have hm := List.mem_of_find?_eq_some hn
      obtain ⟨h1, h2⟩ := orderF_ok ah sm f (out ++ [n]) (fun k hk => by
        rcases List.mem_append.1 hk with hk | hk
        · exact h k hk
        · rw [List.mem_singleton.1 hk]; exact hm)
      refine ⟨h1, ?_⟩
      rw [List.length_append] at h2
      simp at h2
      omega
    · exact ⟨h, by omega⟩
theorem planL_ok {g : XGr} (hg : g.Ok) {ts : List ByteArray} {plan : List Nat} (h : planL g ts = .inr plan) : plan.length ≤ g.man.edges.length ∧ ∀ n ∈ plan, n < g.man.edges.length := by
  unfold planL at h
  split at h
  · cases h
  · cases h
    obtain ⟨h1, h2⟩ := reachedS_ok g.ah (fun l hl => (hg.ab l hl).2) (madeL g.mks ts) (fun n hn => by rw [hg.al]; exact madeL_lt hg.kb ts n hn)
    obtain ⟨h3, h4⟩ := orderF_ok g.ah (reachedS g.ah (madeL g.mks ts)) (reachedS g.ah (madeL g.mks ts)).length [] (fun n hn => by cases hn)
    rw [hg.al] at h1 h2
    refine ⟨?_, fun n hn => h2 n (h3 n hn)⟩
    unfold orderL
    simp at h4
    omega
end Go.Ab.S16
set_option linter.unusedSimpArgs false
set_option linter.unusedVariables false
set_option linter.constructorNameAsVariable false
namespace Go.Ab.S16
open Go Go.Proofs Go.RowKit
section
variable {P : Program} {N : Slots} {C : Ctx P N} {todo : List Item} {env : Env}
theorem pubSlot2 (k : Nat) {o : Option Nat} {sz : Nat} {xs : List D} {ρ : Store} (hk : eget k env = .own o sz xs.length) (hg : GrD o sz xs ρ) (hρ : ∀ c, o = some c → PubOK c ρ) (he : ∀ c, o = some c → ∀ p ∈ env, p.1 ≠ k → D.pub c sz xs p.2 = p.2)
    (h : Goes C todo (eput k (.slc xs) env) ρ) : Goes C todo env (cellsOf o sz xs ++ ρ) := by
  cases o with
  | none =>
    have hx := hg.zero rfl
    subst hx
    refine Goes.env_le h fun j => ?_
    rw [eget_eput]
    split
    · rename_i hj; rw [hj, hk]; exact DLe.own_slc _ _
    · exact DLe.refl _
  | some c =>
    refine Goes.publish c (sget_self c _ _) ?_
    have e1 : spub c sz xs ((c, AObj.arr sz xs) :: ρ) = ρ := by
      simp only [spub, if_true]; exact hρ c rfl sz xs
    change Goes C todo (epub c sz xs env) (spub c sz xs ((c, AObj.arr sz xs) :: ρ))
    rw [e1]
    refine Goes.env_le h fun j => ?_
    rw [eget_epub, eget_eput]
    split
    · rename_i hj
      rw [hj, hk]
      show DLe (if c = c ∧ sz = sz ∧ xs.length ≤ xs.length then D.slc (xs.take xs.length) else _) _
      rw [if_pos ⟨rfl, rfl, Nat.le_refl _⟩, List.take_length]
      exact DLe.refl _
    · rename_i hj
      have : ∀ env : Env, (∀ p ∈ env, p.1 ≠ k → D.pub c sz xs p.2 = p.2) → D.pub c sz xs (eget j env) = eget j env := by
        intro env
        induction env with
        | nil => intro _; rfl
        | cons p r ih =>
          obtain ⟨i, d⟩ := p
          intro hp
          show D.pub c sz xs (if j = i then d else eget j r) = if j = i then d else eget j r
          by_cases hji : j = i
          · rw [if_pos hji]; exact hp (i, d) (by simp) (fun e => hj (hji.trans e))
          · rw [if_neg hji]; exact ih fun p hp' => hp p (by simp [hp'])
      rw [this env (he c rfl)]
      exact DLe.refl _
end
structure EdgeOk (e : XEdge) : Prop where
  small : e.small
  cmd : CmdOk e.cmd
  outs : ∀ f ∈ e.outs, f.size < 2 ^ 40
  needs : ∀ f ∈ e.needs, f.size < 2 ^ 40
structure EvOk (m : XMan) (l : List XFile) (ts : List ByteArray) : Prop where
  edges : m.edges.length ≤ 60
  edge : ∀ e ∈ m.edges, EdgeOk e
  defs : m.defs.length < 2 ^ 20
  files : l.length ≤ 400
  file : ∀ f ∈ l, f.b.length < 2 ^ 20 ∧ f.name.size < 2 ^ 40
  ts : ts.length < 2 ^ 20
theorem newG_pos {m : XMan} {c : Nat} (h : newG m = .inl c) : c ≠ 0 := by
  unfold newG at h
  split at h
  · cases h; decide
  · dsimp only at h
    split at h
    · cases h; decide
    · cases h
theorem planL_pos {g : XGr} {ts : List ByteArray} {c : Nat} (h : planL g ts = .inl c) : c ≠ 0 := by
  unfold planL at h
  split at h
  · cases h; decide
  · cases h
theorem kept_sub {α : Type} (p : α → Bool) (l : List α) : ∀ x ∈ kept p l, x ∈ l := fun x hx => (List.mem_filter.1 hx).1
/-- The cells of scratch.Eval behind graph.New. -/
def eS (b3 b4 b8 mb : Nat) (m : XMan) (g : XGr) (l : List XFile) : Store := [(b8, .arr 1 [g.d mb]), (mb, .mp (mkE g.mks)), (b4, .arr 1 [.slc (l.map XFile.d)]), (b3, .arr 2 [m.d])]
structure EN (b3 b4 b8 mb : Nat) : Prop where
  h8m : b8 ≠ mb
  h84 : b8 ≠ b4
  h83 : b8 ≠ b3
  hm4 : mb ≠ b4
  hm3 : mb ≠ b3
  h43 : b4 ≠ b3
section
variable {b3 b4 b8 mb : Nat} {m : XMan} {g : XGr} {l : List XFile}
theorem eS_8 : sget b8 (eS b3 b4 b8 mb m g l) = some (.arr 1 [g.d mb]) := sget_self ..
theorem eS_m (h : EN b3 b4 b8 mb) : sget mb (eS b3 b4 b8 mb m g l) = some (.mp (mkE g.mks)) := by
  unfold eS
  rw [sget_cons, if_neg (Ne.symm h.h8m), sget_self]
theorem eS_4 (h : EN b3 b4 b8 mb) : sget b4 (eS b3 b4 b8 mb m g l) = some (.arr 1 [.slc (l.map XFile.d)]) := by
  unfold eS
  rw [sget_cons, if_neg (Ne.symm h.h84), sget_cons, if_neg (Ne.symm h.hm4), sget_self]
end
theorem cookM_outs {cmd : ByteArray} {decl : List ByteArray} {files : List XFile} {x : XDish} (hcmd : CmdOk cmd) (h : cookM cmd decl files = some x) : x.outs.length < 2 ^ 20 := by
  unfold cookM at h
  split at h
  · cases h
  · rename_i y hy
    unfold cookR at h
    split at h
    · cases h
    · split at h
      · cases h
        rw [List.length_map]
        exact (hcmd.args y hy).2.2
      · cases h
theorem cookM_files {cmd : ByteArray} {decl : List ByteArray} {files : List XFile} {x : XDish} (h : cookM cmd decl files = some x) : ∀ f ∈ x.outs, f.b.length < 2 ^ 20 ∧ f.name.size < 2 ^ 40 := by
  unfold cookM at h
  split at h
  · cases h
  · rename_i y hy
    unfold cookR at h
    split at h
    · cases h
    · split at h
      · rename_i hle
        cases h
        intro f hf
        obtain ⟨n, hn, rfl⟩ := List.mem_map.1 hf
        have hr := right_len ((shapeM_spec hy).2.1 n hn)
        have hs : (bL n).length = n.size := by show n.data.toList.length = _; simp
        exact ⟨Nat.lt_of_le_of_lt hle (by decide), by show n.size < _; omega⟩
      · cases h
theorem fit_len {outs : List ByteArray} {fs : List XFile} (h : fitB outs fs = true) : fs.length = outs.length := by
  unfold fitB namesB at h
  simp at h
  omega
theorem sources_size {g : XGr} (hg : g.Ok) (hn : ∀ e ∈ g.man.edges, ∀ f ∈ e.needs, f.size < 2 ^ 40) : ∀ f ∈ sourcesL g, f.size < 2 ^ 40 := fun f hf => by
  have h1 : f ∈ usedL g.man := kept_sub _ _ f hf
  unfold usedL compactB at h1
  obtain ⟨b, hb, rfl⟩ := List.mem_map.1 h1
  have h2 := (compact_sub ((sortB (g.man.edges.flatMap XEdge.needs)).map bL)).subset hb
  obtain ⟨s, hs, rfl⟩ := List.mem_map.1 h2
  rw [sortB_mem] at hs
  obtain ⟨e, he, hs2⟩ := List.mem_flatMap.1 hs
  rw [lB_bL]
  exact hn e he s hs2
theorem targetsOr_len {g : XGr} (hg : g.Ok) {ts : List ByteArray} (ht : ts.length < 2 ^ 30) : (targetsOr g ts).length < 2 ^ 30 := by
  unfold targetsOr
  split
  · unfold targetsL
    split
    · have := hg.dl; omega
    · have h1 : (kept (fun f => (usedL g.man).contains f) (g.man.edges.flatMap XEdge.outs)).length ≤ (g.man.edges.flatMap XEdge.outs).length := kept_len ..
      have h2 := flatMap_length_le XEdge.outs 10 g.man.edges (fun e he => (hg.sm e he).outs)
      have := hg.el
      omega
  · exact ht
set_option maxHeartbeats 8000000 in
theorem eval_own (m : XMan) (l : List XFile) (ts : List ByteArray) (hev : EvOk m l ts) :
    ACalls Tryz.prog 12 [m.d, .slc (l.map XFile.d), .slc (ts.map sD)] [] (fun e σ' => match evalM m l ts with
      | .inl c => e = .ret (.tup [.v (.slice none 0 0), eD c])
      | .inr fs => ∃ o, GrD o 2 (fs.map XFile.d) [] ∧ e = .ret (.tup [.own o 2 fs.length, eD 0]) ∧ SLe (cellsOf o 2 (fs.map XFile.d)) σ') := by
  have hsm : ∀ e ∈ m.edges, e.small := fun e he => (hev.edge e he).small
  have hel := hev.edges
  have hfl := hev.files
  have htl := hev.ts
  have hnew := fun σ => new_calls m (by omega) hsm hev.defs σ
  have hb40 : ∀ f ∈ l, f.b.length < 2 ^ 40 := fun f hf => Nat.lt_trans (hev.file f hf).1 (by decide)
  have hn40 : ∀ f ∈ l, f.name.size < 2 ^ 40 := fun f hf => (hev.file f hf).2
  unfold XMan.d at hnew ⊢
  refine ACalls.of_body Tryz.func12 rfl Tryz.ntmps12 (by simp) fun C hC => ?_
  refine Goes.seq ?_
  refine Goes.region [0, 1, 2] fun K hK => ?_; simp (maxSteps := 4000000) only [go_sem, ↓reduceIte, reduceCtorEq, zqa, zqb, zqc, zqd, zqe, zqf, zqg, zqh, zqi, zqj, zqk, zql, zqm]
  intro b3 b4 hb4
  have h43 : b4 ≠ b3 := fun e => by rw [e] at hb4; simp at hb4
  have g3 : sget b3 [(b4, .arr 1 [.slc (l.map XFile.d)]), (b3, .arr 2 [.agg [.slc (m.edges.map XEdge.d), .slc (m.defs.map sD)]])] = some (.arr 2 [.agg [.slc (m.edges.map XEdge.d), .slc (m.defs.map sD)]]) := by rw [sget_cons, if_neg (Ne.symm h43), sget_self]
  refine hK _ _ ?_; clear hK K
  refine Goes.seq ?_
  rcases hg : newG m with c | g
  · rw [hg] at hnew
    refine Goes.region [2, 3, 4] fun K hK => ?_; simp (maxSteps := 4000000) only [go_sem, ↓reduceIte, reduceCtorEq, zqa, zqb, zqc, zqd, zqe, zqf, zqg, zqh, zqi, zqj, zqk, zql, zqm, g3]
    refine ⟨_, Tryz.call20, (hnew _).mono ?_⟩
    rintro e σ1 ⟨rfl, rfl⟩
    simp only [go_sem, ↓reduceIte, reduceCtorEq, zqa, zqb, zqc, zqd, zqe, zqf, zqg, zqh, zqi, zqj, zqk, zql, zqm]
    intro b8 hb8
    refine hK _ _ ?_; clear hK K
    have hcn : ((c : Int) != 0) = true := by
      have := newG_pos hg
      rw [bne_iff_ne]; omega
    have he : evalM m l ts = .inl c := by unfold evalM; rw [hg]
    refine Goes.seq ?_
    refine Goes.seq ?_
    refine Goes.region [2, 4, 8, 9] fun K hK => ?_; simp (maxSteps := 4000000) only [go_sem, ↓reduceIte, reduceCtorEq, zqa, zqb, zqc, zqd, zqe, zqf, zqg, zqh, zqi, zqj, zqk, zql, zqm, hcn]
    refine hK _ _ ?_; clear hK K
    refine Goes.condT rfl ?_
    refine Goes.seq ?_
    refine Goes.region [9] fun K hK => ?_; simp (maxSteps := 4000000) only [go_sem, ↓reduceIte, reduceCtorEq, zqa, zqb, zqc, zqd, zqe, zqf, zqg, zqh, zqi, zqj, zqk, zql, zqm]
    refine hK _ _ ?_; clear hK K
    refine Goes.ret hC Tryz.func12 (by simp [go_sem]) ?_
    simp only [go_sem, ↓reduceIte, reduceCtorEq, zqa, zqb, zqc, zqd, zqe, zqf, zqg, zqh, zqi, zqj, zqk, zql, zqm]
    rw [he]; rfl
  · rw [hg] at hnew
    refine Goes.region [2, 3, 4] fun K hK => ?_; simp (maxSteps := 4000000) only [go_sem, ↓reduceIte, reduceCtorEq, zqa, zqb, zqc, zqd, zqe, zqf, zqg, zqh, zqi, zqj, zqk, zql, zqm, g3]
    refine ⟨_, Tryz.call20, (hnew _).mono ?_⟩
    rintro e σ1 ⟨mb, hmb, rfl, rfl⟩
    simp only [go_sem, ↓reduceIte, reduceCtorEq, zqa, zqb, zqc, zqd, zqe, zqf, zqg, zqh, zqi, zqj, zqk, zql, zqm]
    intro b8 hb8
    refine ⟨⟨rfl, rfl⟩, ?_⟩
    refine hK _ _ ?_; clear hK K
    have hne : ∀ {b c : Nat} {x : AObj} {τ : Store}, sget b ((c, x) :: τ) = none → b ≠ c ∧ sget b τ = none := fun {b c x τ} h => by
      rw [sget_cons] at h
      split at h
      · cases h
      · rename_i e; exact ⟨e, h⟩
    have hEN : EN b3 b4 b8 mb := ⟨(hne hb8).1, (hne (hne hb8).2).1, (hne (hne (hne hb8).2).2).1, (hne hmb).1, (hne (hne hmb).2).1, h43⟩
    obtain ⟨hgok, hgm⟩ := newG_ok (by omega) hsm hev.defs (fun e he => (hev.edge e he).outs) hg
    have hem : evalM m l ts = evalG g l ts := by unfold evalM; rw [hg]
    rw [hem] at hC
    change Goes C _ _ (eS b3 b4 b8 mb m g l)
    have g8 := eS_8 (b3 := b3) (b4 := b4) (b8 := b8) (mb := mb) (m := m) (g := g) (l := l)
    have gm := eS_m (m := m) (g := g) (l := l) hEN
    have g4 := eS_4 (m := m) (g := g) (l := l) hEN
    have hgdl : (g.d mb).cells.length = 1 := rfl
    have hgdp : (g.d mb).plain = true := rfl
    have hgdh : (g.d mb).cells.headD .any = g.d mb := rfl
    refine Goes.seq ?_
    refine Goes.seq ?_
    refine Goes.region [2, 4, 8, 9] fun K hK => ?_; simp (maxSteps := 4000000) only [go_sem, ↓reduceIte, reduceCtorEq, zqa, zqb, zqc, zqd, zqe, zqf, zqg, zqh, zqi, zqj, zqk, zql, zqm]
    refine hK _ _ ?_; clear hK K
    refine Goes.condF rfl ?_
    refine Goes.skip ?_
    refine Goes.seq ?_
    refine Goes.seq ?_
    rcases hw : wrongB g with _ | _
    · refine Goes.region [2, 4, 8] fun K hK => ?_; simp (maxSteps := 4000000) only [go_sem, ↓reduceIte, reduceCtorEq, zqa, zqb, zqc, zqd, zqe, zqf, zqg, zqh, zqi, zqj, zqk, zql, zqm, g8, hgdl, hgdh]
      refine ⟨_, Tryz.call25, (wrong_calls g hgok mb _ gm (sources_size hgok fun e he => (hev.edge e (by rw [← hgm]; exact he)).needs)).mono ?_⟩
      rintro e σ1 ⟨rfl, rfl⟩
      simp only [go_sem, ↓reduceIte, reduceCtorEq, zqa, zqb, zqc, zqd, zqe, zqf, zqg, zqh, zqi, zqj, zqk, zql, zqm, hw]
      refine hK _ _ ?_; clear hK K
      refine Goes.condF rfl ?_
      refine Goes.skip ?_
      refine Goes.seq ?_
      refine Goes.seq ?_
      have hll : (ts.map sD).length = ts.length := List.length_map ..
      refine Goes.region [2, 4, 8] fun K hK => ?_; simp (maxSteps := 4000000) only [go_sem, ↓reduceIte, reduceCtorEq, zqa, zqb, zqc, zqd, zqe, zqf, zqg, zqh, zqi, zqj, zqk, zql, zqm, hll]
      refine hK _ _ ?_; clear hK K
      refine Goes.join (fun env' σ' => env' = [(2, .slc ((targetsOr g ts).map sD)), (4, .ptr b4 1 0 0), (8, .ptr b8 1 0 0)] ∧ σ' = eS b3 b4 b8 mb m g l) (fun k1 hk1 => ?_) ?_
      · refine Goes.cond rfl (fun h33 => ?_) (fun h33 => ?_)
        · have hz : ts.length = 0 := by
            have := h33
            simp at this; rw [this]; rfl
          refine Goes.region [4, 8] fun K hK => ?_; simp (maxSteps := 4000000) only [go_sem, ↓reduceIte, reduceCtorEq, zqa, zqb, zqc, zqd, zqe, zqf, zqg, zqh, zqi, zqj, zqk, zql, zqm, g8, hgdl, hgdh]
          refine ⟨_, Tryz.call30, (targets_calls g mb _ (by rw [hgm]; omega) (by rw [hgm]; exact hsm) (by rw [hgm]; exact hev.defs)).mono ?_⟩
          rintro e σ1 ⟨rfl, rfl⟩
          simp only [go_sem, ↓reduceIte, reduceCtorEq, zqa, zqb, zqc, zqd, zqe, zqf, zqg, zqh, zqi, zqj, zqk, zql, zqm]
          refine hK _ _ ?_; clear hK K
          refine Goes.rebase [2, 4, 8] ?_
          simp only [go_sem, ↓reduceIte, reduceCtorEq, zqa, zqb, zqc, zqd, zqe, zqf, zqg, zqh, zqi, zqj, zqk, zql, zqm]
          refine hk1 _ _ ⟨?_, rfl⟩
          unfold targetsOr
          rw [if_pos hz]
        · have hz : ¬ ts.length = 0 := by
            have := h33
            simp at this; intro h; exact this (List.length_eq_zero_iff.1 h)
          refine Goes.skip ?_
          refine Goes.rebase [2, 4, 8] ?_
          simp only [go_sem, ↓reduceIte, reduceCtorEq, zqa, zqb, zqc, zqd, zqe, zqf, zqg, zqh, zqi, zqj, zqk, zql, zqm]
          refine hk1 _ _ ⟨?_, rfl⟩
          unfold targetsOr
          rw [if_neg hz]
      rintro env' σ' ⟨rfl, rfl⟩
      refine Goes.seq ?_
      rcases hp : planL g (targetsOr g ts) with c | plan
      · have htg : (targetsOr g ts).length < 2 ^ 30 := targetsOr_len hgok (by omega)
        refine Goes.region [2, 4, 8] fun K hK => ?_; simp (maxSteps := 4000000) only [go_sem, ↓reduceIte, reduceCtorEq, zqa, zqb, zqc, zqd, zqe, zqf, zqg, zqh, zqi, zqj, zqk, zql, zqm, g8, hgdl, hgdh]
        refine ⟨_, Tryz.call31, (plan_calls g hgok mb (targetsOr g ts) _ gm htg).mono ?_⟩
        rintro e σ1 ⟨rfl, rfl⟩
        simp only [go_sem, ↓reduceIte, reduceCtorEq, zqa, zqb, zqc, zqd, zqe, zqf, zqg, zqh, zqi, zqj, zqk, zql, zqm, hp, planD]
        refine hK _ _ ?_; clear hK K
        refine Goes.seq ?_
        refine Goes.seq ?_
        have hcn : ((c : Int) != 0) = true := by
          have := planL_pos hp
          rw [bne_iff_ne]; omega
        have he : evalG g l ts = .inl c := by unfold evalG; rw [hw]; simp only [Bool.false_eq_true, if_false, hp]
        refine Goes.region [2, 4, 8, 9, 10] fun K hK => ?_; simp (maxSteps := 4000000) only [go_sem, ↓reduceIte, reduceCtorEq, zqa, zqb, zqc, zqd, zqe, zqf, zqg, zqh, zqi, zqj, zqk, zql, zqm, hcn]
        refine hK _ _ ?_; clear hK K
        refine Goes.condT rfl ?_
        refine Goes.seq ?_
        refine Goes.region [9] fun K hK => ?_; simp (maxSteps := 4000000) only [go_sem, ↓reduceIte, reduceCtorEq, zqa, zqb, zqc, zqd, zqe, zqf, zqg, zqh, zqi, zqj, zqk, zql, zqm]
        refine hK _ _ ?_; clear hK K
        refine Goes.ret hC Tryz.func12 (by simp [go_sem]) ?_
        simp only [go_sem, ↓reduceIte, reduceCtorEq, zqa, zqb, zqc, zqd, zqe, zqf, zqg, zqh, zqi, zqj, zqk, zql, zqm]
        rw [he]; rfl
      · have htg : (targetsOr g ts).length < 2 ^ 30 := targetsOr_len hgok (by omega)
        refine Goes.region [2, 4, 8] fun K hK => ?_; simp (maxSteps := 4000000) only [go_sem, ↓reduceIte, reduceCtorEq, zqa, zqb, zqc, zqd, zqe, zqf, zqg, zqh, zqi, zqj, zqk, zql, zqm, g8, hgdl, hgdh]
        refine ⟨_, Tryz.call31, (plan_calls g hgok mb (targetsOr g ts) _ gm htg).mono ?_⟩
        rintro e σ1 ⟨rfl, rfl⟩
        simp only [go_sem, ↓reduceIte, reduceCtorEq, zqa, zqb, zqc, zqd, zqe, zqf, zqg, zqh, zqi, zqj, zqk, zql, zqm, hp, planD]
        refine hK _ _ ?_; clear hK K
        refine Goes.seq ?_
        refine Goes.seq ?_
        refine Goes.region [2, 4, 8, 9, 10] fun K hK => ?_; simp (maxSteps := 4000000) only [go_sem, ↓reduceIte, reduceCtorEq, zqa, zqb, zqc, zqd, zqe, zqf, zqg, zqh, zqi, zqj, zqk, zql, zqm]
        refine hK _ _ ?_; clear hK K
        refine Goes.condF rfl ?_
        refine Goes.skip ?_
        refine Goes.seq ?_
        refine Goes.region [2, 4, 8, 10] fun K hK => ?_; simp (maxSteps := 4000000) only [go_sem, ↓reduceIte, reduceCtorEq, zqa, zqb, zqc, zqd, zqe, zqf, zqg, zqh, zqi, zqj, zqk, zql, zqm]
        refine hK _ _ ?_; clear hK K
        refine Goes.seq ?_
        refine Goes.seq ?_
        rcases hmt : (targetsOr g ts).any (missB g l) with _ | _
        · refine Goes.region [2, 4, 8, 10, 11] fun K hK => ?_; simp (maxSteps := 4000000) only [go_sem, ↓reduceIte, reduceCtorEq, zqa, zqb, zqc, zqd, zqe, zqf, zqg, zqh, zqi, zqj, zqk, zql, zqm]
          refine ⟨_, Tryz.call34, (containsFunc_str (targetsOr g ts) _ [.ptr b8 1 0 0, .ptr b4 1 0 0] (missB g l) _ (by omega) (eval1_tests g mb b8 b4 l _ _ gm g8 g4 (by omega) hb40)).mono ?_⟩
          rintro e σ1 ⟨rfl, rfl⟩
          simp only [go_sem, ↓reduceIte, reduceCtorEq, zqa, zqb, zqc, zqd, zqe, zqf, zqg, zqh, zqi, zqj, zqk, zql, zqm, hmt]
          refine hK _ _ ?_; clear hK K
          refine Goes.condF rfl ?_
          refine Goes.skip ?_
          refine Goes.seq ?_
          refine Goes.region [4, 8, 10, 11] fun K hK => ?_; simp (maxSteps := 4000000) only [go_sem, ↓reduceIte, reduceCtorEq, zqa, zqb, zqc, zqd, zqe, zqf, zqg, zqh, zqi, zqj, zqk, zql, zqm]
          refine hK _ _ ?_; clear hK K
          refine Goes.seq ?_
          refine Goes.seq ?_
          refine Goes.nilOwn 12 2 rfl ?_
          simp only [go_sem, ↓reduceIte, reduceCtorEq, zqa, zqb, zqc, zqd, zqe, zqf, zqg, zqh, zqi, zqj, zqk, zql, zqm]
          have hev2 : evalG g l ts = evalGo g l plan [] := by unfold evalG; rw [hw]; simp only [Bool.false_eq_true, if_false, hp, hmt]
          rw [hev2] at hC
          obtain ⟨hpl, hpb⟩ := planL_ok hgok hp
          rw [hgm] at hpl hpb
          have hpll : (plan.map nD).length = plan.length := List.length_map ..
          refine Goes.region [4, 8, 10, 11, 12] fun K hK => ?_; simp (maxSteps := 4000000) only [go_sem, ↓reduceIte, reduceCtorEq, zqa, zqb, zqc, zqd, zqe, zqf, zqg, zqh, zqi, zqj, zqk, zql, zqm, hpll]
          refine hK _ _ ?_; clear hK K
          refine Goes.block ?_
          refine Goes.rebase [4, 8, 11, 12, 49, 50, 51] ?_
          simp only [go_sem, ↓reduceIte, reduceCtorEq, zqa, zqb, zqc, zqd, zqe, zqf, zqg, zqh, zqi, zqj, zqk, zql, zqm]
          refine Goes.while (fun (i : Nat) env' σ'' => ∃ om : Option Nat, ∃ made : List XFile, (i ≤ plan.length ∧ evalGo g l (plan.drop i) made = evalGo g l plan [] ∧ made.length ≤ 10 * i ∧ (∀ f ∈ made, f.b.length < 2 ^ 20 ∧ f.name.size < 2 ^ 40) ∧ GrD om 2 (made.map XFile.d) (eS b3 b4 b8 mb m g l)) ∧ env' = [(4, .ptr b4 1 0 0), (8, .ptr b8 1 0 0), (11, .clo (.func 32) [] [.ptr b8 1 0 0, .ptr b4 1 0 0]), (12, .own om 2 made.length), (49, .slc (plan.map nD)), (50, .v (.int .i64 (plan.length : Int))), (51, .v (.int .i64 (i : Int)))] ∧ σ'' = cellsOf om 2 (made.map XFile.d) ++ eS b3 b4 b8 mb m g l) (fun (i : Nat) => plan.length - i) 0 ⟨none, [], ⟨Nat.zero_le _, rfl, Nat.le_refl _, fun f hf => (by cases hf), GrD.nil _ _⟩, rfl, rfl⟩ ?_
          rintro i env' σ'' ⟨om, made, ⟨hi, hgo, hml, hmd, hgr⟩, rfl, rfl⟩ ih
          have ih1 := ih
          refine Goes.seq ?_
          refine Goes.region [4, 8, 11, 12, 49, 50, 51] fun K hK => ?_; simp (maxSteps := 4000000) only [go_sem, ↓reduceIte, reduceCtorEq, zqa, zqb, zqc, zqd, zqe, zqf, zqg, zqh, zqi, zqj, zqk, zql, zqm]
          refine hK _ _ ?_; clear hK K
          refine Goes.seq ?_
          refine Goes.cond rfl (fun h52 => ?_) (fun h52 => ?_)
          · have hlt : i < plan.length := by simpa using h52
            have hpg := getD_map_lt nD plan i hlt
            rw [nD] at hpg
            have hi0 : (0 : Int) ≤ (i : Int) := by omega
            have hi1 : (i : Int) < (plan.length : Int) := by omega
            have hnb := hpb _ (List.getElem_mem hlt)
            obtain ⟨n, hn⟩ : ∃ n, plan[i] = n := ⟨_, rfl⟩
            rw [hn] at hpg hnb
            have hdr : plan.drop i = n :: plan.drop (i + 1) := by rw [List.drop_eq_getElem_cons hlt, hn]
            rw [hdr] at hgo
            have hnb2 : n < g.man.edges.length := by rw [hgm]; exact hnb
            have hE : g.man.edges[n] = edgeOf g n := by unfold edgeOf; rw [List.getD_eq_getElem?_getD, List.getElem?_eq_getElem hnb2]; rfl
            obtain ⟨E, hEe⟩ : ∃ E, edgeOf g n = E := ⟨_, rfl⟩
            rw [hEe] at hE
            have hEok : EdgeOk E := hev.edge E (by rw [← hgm, ← hE]; exact List.getElem_mem _)
            refine Goes.skip ?_
            refine Goes.seq ?_
            refine Goes.block ?_
            refine Goes.seq ?_
            refine Goes.region [4, 8, 11, 12, 49, 50, 51] fun K hK => ?_; simp (maxSteps := 4000000) only [go_sem, ↓reduceIte, reduceCtorEq, zqa, zqb, zqc, zqd, zqe, zqf, zqg, zqh, zqi, zqj, zqk, zql, zqm, hpll, hpg, hi0, hi1]
            intro b14 hb14
            refine hK _ _ ?_; clear hK K
            obtain ⟨hgr1, hle1⟩ := hgr.push (x := .arr 1 [nD n]) hb14
            have hb14e := (hgr.none_of hb14).1
            refine Goes.le (ELe.refl _) hle1 ?_
            have hk1 : ∀ {b : Nat} {o : AObj}, sget b (eS b3 b4 b8 mb m g l) = some o → sget b ((b14, .arr 1 [nD n]) :: eS b3 b4 b8 mb m g l) = some o := fun {b o} h => by
              rw [sget_cons, if_neg (fun e => by rw [e, hb14e] at h; cases h)]; exact h
            have g8a := hgr1.keep (hk1 g8)
            have g14a := hgr1.keep (sget_self b14 (.arr 1 [nD n]) (eS b3 b4 b8 mb m g l))
            refine Goes.seq ?_
            refine Goes.region [4, 8, 11, 12, 14, 49, 50, 51] fun K hK => ?_; simp (maxSteps := 4000000) only [go_sem, ↓reduceIte, reduceCtorEq, zqa, zqb, zqc, zqd, zqe, zqf, zqg, zqh, zqi, zqj, zqk, zql, zqm, g8a, g14a, hgdl, hgdh]
            refine ⟨_, Tryz.call35, (edge_calls g mb n _ hnb2 (by rw [hgm]; omega) (by rw [hgm]; exact hsm)).mono ?_⟩
            rintro e σ1 ⟨rfl, rfl⟩
            simp only [go_sem, ↓reduceIte, reduceCtorEq, zqa, zqb, zqc, zqd, zqe, zqf, zqg, zqh, zqi, zqj, zqk, zql, zqm, hE, XEdge.d]
            intro b15 hb15
            refine hK _ _ ?_; clear hK K
            obtain ⟨hgr2, hle2⟩ := hgr1.push (x := .arr 6 [E.d]) hb15
            have hb15e := (hgr1.none_of hb15).1
            refine Goes.le (ELe.refl _) hle2 ?_
            have hk2 : ∀ {b : Nat} {o : AObj}, sget b ((b14, .arr 1 [nD n]) :: eS b3 b4 b8 mb m g l) = some o → sget b ((b15, .arr 6 [E.d]) :: (b14, .arr 1 [nD n]) :: eS b3 b4 b8 mb m g l) = some o := fun {b o} h => by
              rw [sget_cons, if_neg (fun e => by rw [e, hb15e] at h; cases h)]; exact h
            have g8b := hgr2.keep (hk2 (hk1 g8))
            have g4b := hgr2.keep (hk2 (hk1 g4))
            have gmb := hgr2.keep (hk2 (hk1 gm))
            have g14b := hgr2.keep (hk2 (sget_self b14 (.arr 1 [nD n]) (eS b3 b4 b8 mb m g l)))
            have g15b := hgr2.keep (sget_self b15 (.arr 6 [E.d]) ((b14, .arr 1 [nD n]) :: eS b3 b4 b8 mb m g l))
            have g15c := g15b.trans (congrArg (fun x => some (AObj.arr 6 [x])) (show E.d = .agg [.slc (E.outs.map sD), .slc (E.ins.map sD), .slc (E.impl.map sD), .slc (E.order.map sD), .v (.string E.cmd), .v (.string E.dep)] from rfl))
            have hsmE := hEok.small
            have hcc := fun σ => concat_str_slc [E.ins, E.impl, E.order] σ (by simp) (fun x hx => by
              have h1 := hsmE.ins; have h2 := hsmE.impl; have h3 := hsmE.order
              simp only [List.mem_cons, List.not_mem_nil, or_false] at hx
              rcases hx with rfl | rfl | rfl <;> omega)
            have hfl3 : [E.ins, E.impl, E.order].flatten = E.needs := by unfold XEdge.needs; simp
            rw [hfl3] at hcc
            have hnl := needs_len E hsmE
            refine Goes.seq ?_
            refine Goes.seq ?_
            rcases hmn : E.needs.any (missB g l) with _ | _
            · refine Goes.regionM [4, 8, 11, 12, 14, 15, 49, 50, 51] [64] fun K hK => ?_; simp (maxSteps := 4000000) only [go_sem, ↓reduceIte, reduceCtorEq, zqa, zqb, zqc, zqd, zqe, zqf, zqg, zqh, zqi, zqj, zqk, zql, zqm, g15c]
              refine ⟨by decide, ?_⟩
              refine ⟨_, Tryz.call36, (hcc _).mono ?_⟩
              rintro e σ1 ⟨rfl, rfl⟩
              simp only [go_sem, ↓reduceIte, reduceCtorEq, zqa, zqb, zqc, zqd, zqe, zqf, zqg, zqh, zqi, zqj, zqk, zql, zqm]
              refine ⟨_, Tryz.call34, (containsFunc_str E.needs _ [.ptr b8 1 0 0, .ptr b4 1 0 0] (missB g l) _ (by omega) (eval1_tests g mb b8 b4 l _ _ gmb g8b g4b (by omega) hb40)).mono ?_⟩
              rintro e σ1 ⟨rfl, rfl⟩
              simp only [go_sem, ↓reduceIte, reduceCtorEq, zqa, zqb, zqc, zqd, zqe, zqf, zqg, zqh, zqi, zqj, zqk, zql, zqm, hmn]
              refine hK _ _ ?_; clear hK K
              refine Goes.condF rfl ?_
              refine Goes.skip ?_
              refine Goes.seq ?_
              refine Goes.region [4, 8, 11, 12, 14, 15, 49, 50, 51] fun K hK => ?_; simp (maxSteps := 4000000) only [go_sem, ↓reduceIte, reduceCtorEq, zqa, zqb, zqc, zqd, zqe, zqf, zqg, zqh, zqi, zqj, zqk, zql, zqm]
              refine hK _ _ ?_; clear hK K
              refine Goes.seq ?_
              obtain ⟨A, hA⟩ : ∃ A, kept (ownMadeB g) l = A := ⟨_, rfl⟩
              have hlm : (l.map XFile.d).length = l.length := List.length_map ..
              refine Goes.region [4, 8, 11, 12, 15, 16, 49, 50, 51] fun K hK => ?_; simp (maxSteps := 4000000) only [go_sem, ↓reduceIte, reduceCtorEq, zqa, zqb, zqc, zqd, zqe, zqf, zqg, zqh, zqi, zqj, zqk, zql, zqm, g4b]
              refine ⟨_, Tryz.call39, (clone_fileO (l.map XFile.d) _ (plain_file l) (by omega)).mono ?_⟩
              rintro e σ1 ⟨oc, hgc, rfl, rfl⟩
              simp only [go_sem, ↓reduceIte, reduceCtorEq, zqa, zqb, zqc, zqd, zqe, zqf, zqg, zqh, zqi, zqj, zqk, zql, zqm, hlm]
              refine ⟨_, Tryz.call38, (deleteFunc_fileG oc l 40 [.ptr b8 1 0 0] (ownMadeB g) _ (by omega) hgc (fun τ hle => eval3_tests g mb b8 l τ (hle _ _ gmb) (hle _ _ g8b) hn40)).mono ?_⟩
              rintro e σ2 ⟨rfl, rfl, hgc2⟩
              simp only [go_sem, ↓reduceIte, reduceCtorEq, zqa, zqb, zqc, zqd, zqe, zqf, zqg, zqh, zqi, zqj, zqk, zql, zqm]
              refine hK _ _ ?_; clear hK K
              rw [hA] at hgc2 ⊢
              have hAl : A.length ≤ l.length := by rw [← hA]; exact kept_len ..
              have hAs : ∀ f ∈ A, f ∈ l := by rw [← hA]; exact kept_sub _ _
              refine Goes.seq ?_
              refine Goes.regionM [4, 8, 11, 12, 15, 16, 17, 49, 50, 51] [75] fun K hK => ?_; simp (maxSteps := 4000000) only [go_sem, ↓reduceIte, reduceCtorEq, zqa, zqb, zqc, zqd, zqe, zqf, zqg, zqh, zqi, zqj, zqk, zql, zqm]
              refine ⟨by decide, ?_⟩
              refine ⟨_, Tryz.call41, (concat2_file oc om A made _ hgc2.oget (oget_grd hgc2 hgr2.oget) (by omega) (by omega)).mono ?_⟩
              rintro e σ3 ⟨o3, hg3, rfl, rfl⟩
              simp only [go_sem, ↓reduceIte, reduceCtorEq, zqa, zqb, zqc, zqd, zqe, zqf, zqg, zqh, zqi, zqj, zqk, zql, zqm]
              refine ⟨_, Tryz.call38, (deleteFunc_fileG o3 (A ++ made) 37 [.ptr b8 1 0 0, .ptr b14 1 0 0] (farB g n) _ (by rw [List.length_append]; omega) hg3 (fun τ hle => eval2_tests g hgok mb b8 b14 n hnb2 (A ++ made) τ (hle _ _ (hgc2.keep gmb)) (hle _ _ (hgc2.keep g8b)) (hle _ _ (hgc2.keep g14b)) (fun f hf => by
                rcases List.mem_append.1 hf with hf | hf
                · exact hn40 f (hAs f hf)
                · exact (hmd f hf).2))).mono ?_⟩
              rintro e σ4 ⟨rfl, rfl, hg4⟩
              simp only [go_sem, ↓reduceIte, reduceCtorEq, zqa, zqb, zqc, zqd, zqe, zqf, zqg, zqh, zqi, zqj, zqk, zql, zqm]
              refine hK _ _ ?_; clear hK K
              have hF : kept (farB g n) (A ++ made) = filesFor g l made n := by unfold filesFor; rw [hA]
              rw [hF] at hg4 ⊢
              obtain ⟨F, hFe⟩ : ∃ F, filesFor g l made n = F := ⟨_, rfl⟩
              rw [hFe] at hg4 ⊢
              have happ : ∀ {c : Nat} {A B : Store}, sget c (A ++ B) = none → sget c A = none ∧ sget c B = none := fun {c A B} h => by
                rw [sget_append] at h
                split at h
                · cases h
                · exact ⟨by assumption, h⟩
              have hgF : GrD o3 2 (F.map XFile.d) (cellsOf om 2 (made.map XFile.d) ++ ((b15, .arr 6 [E.d]) :: (b14, .arr 1 [nD n]) :: eS b3 b4 b8 mb m g l)) := grd_base hg4 fun b hb => (happ hb).2
              refine Goes.le (ELe.refl _) (SLe.append (SLe.append_left _ _) (hgc2.sle.trans hg4.sle)) ?_
              refine Goes.rebase [4, 8, 11, 12, 15, 18, 49, 50, 51] ?_
              simp only [go_sem, ↓reduceIte, reduceCtorEq, zqa, zqb, zqc, zqd, zqe, zqf, zqg, zqh, zqi, zqj, zqk, zql, zqm]
              have hFl : F.length = (F.map XFile.d).length := (List.length_map ..).symm
              rw [hFl]
              refine pubSlot2 18 rfl hgF (fun c hc => ?_) (fun c hc p hp hk => ?_) ?_
              · have h0 := hgF.fresh c hc
                have hmc : om ≠ some c := own_ne (SLe.append_left _ _) h0
                have hne : ∀ {b c : Nat} {x : AObj} {τ : Store}, sget b ((c, x) :: τ) = none → b ≠ c ∧ sget b τ = none := fun {b c x τ} h => by
                  rw [sget_cons] at h
                  split at h
                  · cases h
                  · rename_i e; exact ⟨e, h⟩
                have h1 := hne (happ h0).2
                have h2 := hne h1.2
                have h3 := hne (show sget c ((b8, _) :: _) = none from h2.2)
                have h4 := hne h3.2
                have h5 := hne h4.2
                have h6 := hne h5.2
                refine PubOK.cells hmc (fun y hy s ys => ?_) (.cons h1.1 (fun _ _ => rfl) (.cons h2.1 (fun _ _ => rfl) (.cons h3.1 (fun _ _ => rfl) (.cons h4.1 (fun _ _ => mkE_pub _ _ _ _) (.cons h5.1 (fun _ _ => rfl) (.cons h6.1 (fun _ _ => rfl) (.nil c)))))))
                obtain ⟨z, _, rfl⟩ := List.mem_map.1 hy
                rfl
              · have hmc : om ≠ some c := own_ne (SLe.append_left _ _) (hgF.fresh c hc)
                simp only [List.mem_cons, List.not_mem_nil, or_false] at hp
                rcases hp with rfl | rfl | rfl | rfl | rfl | rfl | rfl | rfl | rfl
                case inr.inr.inr.inl =>
                  show D.pub c 2 _ (.own om 2 made.length) = .own om 2 made.length
                  cases om with
                  | none => rfl
                  | some q =>
                    show (if q = c ∧ _ ∧ _ then _ else _) = _
                    rw [if_neg (fun h => hmc (by rw [h.1]))]
                all_goals first | rfl | exact absurd rfl hk
              simp only [go_sem, ↓reduceIte, reduceCtorEq, zqa, zqb, zqc, zqd, zqe, zqf, zqg, zqh, zqi, zqj, zqk, zql, zqm]
              refine Goes.seq ?_
              obtain ⟨T0, hT0⟩ : ∃ T0 : Store, cellsOf om 2 (made.map XFile.d) ++ ((b15, AObj.arr 6 [E.d]) :: (b14, .arr 1 [nD n]) :: eS b3 b4 b8 mb m g l) = T0 := ⟨_, rfl⟩
              rw [hT0] at g15c ⊢
              have hFs : ∀ f ∈ F, f ∈ A ++ made := by rw [← hFe, ← hF]; exact kept_sub _ _
              have hFb : ∀ f ∈ F, f.b.length < 2 ^ 20 := fun f hf => by
                rcases List.mem_append.1 (hFs f hf) with h | h
                · exact (hev.file f (hAs f h)).1
                · exact (hmd f h).1
              have hFn : F.length < 2 ^ 31 := by
                have : F.length ≤ (A ++ made).length := by rw [← hFe, ← hF]; exact kept_len ..
                rw [List.length_append] at this
                omega
              have hcat := fun σ => concat_str_slc [E.ins, E.impl] σ (by simp) (fun x hx => by
                have h1 := hsmE.ins; have h2 := hsmE.impl
                simp only [List.mem_cons, List.not_mem_nil, or_false] at hx
                rcases hx with rfl | rfl <;> omega)
              have hfl2 : [E.ins, E.impl].flatten = E.ins ++ E.impl := by simp
              rw [hfl2] at hcat
              have hcook := fun σ => cook_calls E.cmd (E.ins ++ E.impl) F hEok.cmd hFn hFb (by have h1 := hsmE.ins; have h2 := hsmE.impl; rw [List.length_append]; omega) σ
              obtain ⟨xd, ez, hcd, hcs⟩ : ∃ xd : XDish, ∃ ez : Int, cookD (cookM E.cmd (E.ins ++ E.impl) F) = .tup [xd.d, eD ez] ∧ ((cookM E.cmd (E.ins ++ E.impl) F = none ∧ ez = 13) ∨ (cookM E.cmd (E.ins ++ E.impl) F = some xd ∧ ez = 0)) := by
                cases h : cookM E.cmd (E.ins ++ E.impl) F with
                | none => exact ⟨_, 13, rfl, .inl ⟨rfl, rfl⟩⟩
                | some x => exact ⟨x, 0, rfl, .inr ⟨rfl, rfl⟩⟩
              rw [hcd] at hcook
              have hxc : xd.d.cells.length = 4 := rfl
              have hxp : xd.d.plain = true := rfl
              refine Goes.drawT [4, 8, 11, 12, 15, 18, 49, 50, 51] [86] [b15] [] (.op 0 true (.op 1 true (.op 2 true (.op 3 true (.op 4 true (.op 5 true (.op 8 true (.op 6 true (.alt 7 13 (.alt 9 13 (.op 10 true (.op 11 true (.op 12 true (.op 13 false (.op 14 false (.op 15 true .nil)))))) (.op 9 false (.op 10 true (.op 11 true (.op 12 true (.op 14 false (.op 15 true .nil))))))) (.op 7 false (.op 9 false (.op 10 true (.op 11 true (.op 12 true (.op 14 false (.op 15 true .nil)))))))))))))))) (by kernel_rfl) (by decide) (by kernel_rfl) fun K hK => ?_; simp (maxSteps := 4000000) only [go_sem, ↓reduceIte, reduceCtorEq, zqa, zqb, zqc, zqd, zqe, zqf, zqg, zqh, zqi, zqj, zqk, zql, zqm, g15c]
              refine (fun (hrest : ∀ (b19 : Nat) (env' : Env), sget b19 T0 = none → (eget 4 env' = .ptr b4 1 0 0 ∧ eget 8 env' = .ptr b8 1 0 0 ∧ eget 11 env' = .clo (.func 32) [] [.ptr b8 1 0 0, .ptr b4 1 0 0] ∧ eget 12 env' = .own om 2 made.length ∧ eget 15 env' = .ptr b15 6 0 0 ∧ eget 19 env' = .ptr b19 4 0 0 ∧ eget 20 env' = eD ez ∧ eget 49 env' = .slc (plan.map nD) ∧ eget 50 env' = .v (.int .i64 (plan.length : Int)) ∧ eget 51 env' = .v (.int .i64 (i : Int))) → K env' ((b19, .arr 4 [xd.d]) :: T0)) => ?_) ?_
              · refine ⟨by decide, ?_, ?_⟩
                · refine ⟨_, Tryz.call36, (hcat _).mono ?_⟩
                  rintro e σ1 ⟨rfl, rfl⟩
                  simp only [go_sem, ↓reduceIte, reduceCtorEq, zqa, zqb, zqc, zqd, zqe, zqf, zqg, zqh, zqi, zqj, zqk, zql, zqm, g15c, hxc, hxp]
                  refine ⟨?_, ?_⟩
                  · refine ⟨_, Tryz.call42, (hcook _).mono ?_⟩
                    rintro e σ1 ⟨rfl, rfl⟩
                    simp only [go_sem, ↓reduceIte, reduceCtorEq, zqa, zqb, zqc, zqd, zqe, zqf, zqg, zqh, zqi, zqj, zqk, zql, zqm, g15c, hxc, hxp]
                    intro b19 hb19
                    have h19 : b15 ≠ b19 := fun e => by rw [← e, g15c] at hb19; cases hb19
                    exact ⟨fun b hb => (by subst hb; rw [sget_cons, if_neg h19]), fun b hb => (by subst hb; rw [sget_cons, sget_cons, if_neg h19, if_neg h19]), hrest b19 _ hb19 ⟨rfl, rfl, rfl, rfl, rfl, rfl, rfl, rfl, rfl, rfl⟩⟩
                  · intro b19 hb19
                    have h19 : b15 ≠ b19 := fun e => by rw [← e, g15c] at hb19; cases hb19
                    refine ⟨fun b hb => (by subst hb; rw [sget_cons, if_neg h19]), ?_⟩
                    refine ⟨_, Tryz.call42, (hcook _).mono ?_⟩
                    rintro e σ1 ⟨rfl, rfl⟩
                    simp only [go_sem, ↓reduceIte, reduceCtorEq, zqa, zqb, zqc, zqd, zqe, zqf, zqg, zqh, zqi, zqj, zqk, zql, zqm, g15c, hxc, hxp]
                    exact ⟨fun b hb => (by subst hb; rw [sget_cons, sget_cons, if_neg h19, if_neg h19]), hrest b19 _ hb19 ⟨rfl, rfl, rfl, rfl, rfl, rfl, rfl, rfl, rfl, rfl⟩⟩
                · intro b19 hb19
                  have h19 : b15 ≠ b19 := fun e => by rw [← e, g15c] at hb19; cases hb19
                  refine ⟨fun b hb => (by subst hb; rw [sget_cons, if_neg h19]), ?_⟩
                  refine ⟨_, Tryz.call36, (hcat _).mono ?_⟩
                  rintro e σ1 ⟨rfl, rfl⟩
                  simp only [go_sem, ↓reduceIte, reduceCtorEq, zqa, zqb, zqc, zqd, zqe, zqf, zqg, zqh, zqi, zqj, zqk, zql, zqm, g15c, hxc, hxp]
                  refine ⟨_, Tryz.call42, (hcook _).mono ?_⟩
                  rintro e σ1 ⟨rfl, rfl⟩
                  simp only [go_sem, ↓reduceIte, reduceCtorEq, zqa, zqb, zqc, zqd, zqe, zqf, zqg, zqh, zqi, zqj, zqk, zql, zqm, g15c, hxc, hxp]
                  exact ⟨fun b hb => (by subst hb; rw [sget_cons, sget_cons, if_neg h19, if_neg h19]), hrest b19 _ hb19 ⟨rfl, rfl, rfl, rfl, rfl, rfl, rfl, rfl, rfl, rfl⟩⟩
              rintro b19 env' hb19 ⟨e4, e8, e11, e12, e15, e19, e20, e49, e50, e51⟩
              refine hK _ _ ?_; clear hK K
              refine Goes.env_le (env' := [(4, .ptr b4 1 0 0), (8, .ptr b8 1 0 0), (11, .clo (.func 32) [] [.ptr b8 1 0 0, .ptr b4 1 0 0]), (12, .own om 2 made.length), (15, .ptr b15 6 0 0), (19, .ptr b19 4 0 0), (20, eD ez), (49, .slc (plan.map nD)), (50, .v (.int .i64 (plan.length : Int))), (51, .v (.int .i64 (i : Int)))]) ?_ (fun j => ?_)
              rotate_left
              · simp only [eget]
                repeat' split
                all_goals first
                  | (rename_i h; subst h; first | (rw [e4]; exact DLe.refl _) | (rw [e8]; exact DLe.refl _) | (rw [e11]; exact DLe.refl _) | (rw [e12]; exact DLe.refl _) | (rw [e15]; exact DLe.refl _) | (rw [e19]; exact DLe.refl _) | (rw [e20]; exact DLe.refl _) | (rw [e49]; exact DLe.refl _) | (rw [e50]; exact DLe.refl _) | (rw [e51]; exact DLe.refl _))
                  | exact DLe.any _
              rw [← hT0] at hb19 g15c ⊢
              obtain ⟨hgr3, hle3⟩ := hgr2.push (x := .arr 4 [xd.d]) hb19
              have hb19e := (hgr2.none_of hb19).1
              refine Goes.le (ELe.refl _) hle3 ?_
              have g19c := hgr3.keep (sget_self b19 (.arr 4 [xd.d]) ((b15, .arr 6 [E.d]) :: (b14, .arr 1 [nD n]) :: eS b3 b4 b8 mb m g l))
              have hk3 : ∀ {b : Nat} {o : AObj}, sget b ((b15, .arr 6 [E.d]) :: (b14, .arr 1 [nD n]) :: eS b3 b4 b8 mb m g l) = some o → sget b ((b19, .arr 4 [xd.d]) :: (b15, .arr 6 [E.d]) :: (b14, .arr 1 [nD n]) :: eS b3 b4 b8 mb m g l) = some o := fun {b o} h => by
                rw [sget_cons, if_neg (fun e => by rw [e, hb19e] at h; cases h)]; exact h
              have g15e := hgr3.keep (hk3 (sget_self b15 (.arr 6 [E.d]) ((b14, .arr 1 [nD n]) :: eS b3 b4 b8 mb m g l)))
              have hE6 : D.agg (List.take 6 E.d.cells) = E.d := rfl
              have hE6l : E.d.cells.length = 6 := rfl
              have hX4 : D.agg (List.take 4 xd.d.cells) = xd.d := rfl
              refine Goes.seq ?_
              refine Goes.seq ?_
              rcases (show (cookM E.cmd (E.ins ++ E.impl) F = none ∧ ez = 13) ∨ (cookM E.cmd (E.ins ++ E.impl) F = some xd ∧ ez = 0 ∧ ((xd.dep.toList == E.dep.toList) && fitB E.outs xd.outs) = false) ∨ (cookM E.cmd (E.ins ++ E.impl) F = some xd ∧ ez = 0 ∧ ((xd.dep.toList == E.dep.toList) && fitB E.outs xd.outs) = true) from (by
                rcases hcs with h | ⟨h1, h2⟩
                · exact .inl h
                · cases h3 : ((xd.dep.toList == E.dep.toList) && fitB E.outs xd.outs) with
                  | false => exact .inr (.inl ⟨h1, h2, rfl⟩)
                  | true => exact .inr (.inr ⟨h1, h2, rfl⟩))) with ⟨hck, rfl⟩ | ⟨hck, rfl, hft⟩ | ⟨hck, rfl, hft⟩
              · have hes : evalStep g l n made = .inl 13 := by unfold evalStep; rw [hEe, hmn, hFe, hck]; rfl
                have he : evalGo g l plan [] = .inl 13 := by rw [← hgo, evalGo, hes]
                refine Goes.region [4, 8, 11, 12, 15, 19, 20, 49, 50, 51] fun K hK => ?_; simp (maxSteps := 4000000) only [go_sem, ↓reduceIte, reduceCtorEq, zqa, zqb, zqc, zqd, zqe, zqf, zqg, zqh, zqi, zqj, zqk, zql, zqm, eD]
                refine hK _ _ ?_; clear hK K
                refine Goes.condT rfl ?_
                refine Goes.seq ?_
                refine Goes.region [] fun K hK => ?_; simp (maxSteps := 4000000) only [go_sem, ↓reduceIte, reduceCtorEq, zqa, zqb, zqc, zqd, zqe, zqf, zqg, zqh, zqi, zqj, zqk, zql, zqm]
                refine hK _ _ ?_; clear hK K
                refine Goes.ret hC Tryz.func12 (by simp [go_sem]) ?_
                simp only [go_sem, ↓reduceIte, reduceCtorEq, zqa, zqb, zqc, zqd, zqe, zqf, zqg, zqh, zqi, zqj, zqk, zql, zqm]
                rw [he]; rfl
              · have hes : evalStep g l n made = .inl 13 := by unfold evalStep; rw [hEe, hmn, hFe, hck]; simp only [hft]; rfl
                have he : evalGo g l plan [] = .inl 13 := by rw [← hgo, evalGo, hes]
                have hxo := cookM_outs hEok.cmd hck
                refine Goes.region [4, 8, 11, 12, 15, 19, 20, 49, 50, 51] fun K hK => ?_; simp (maxSteps := 4000000) only [go_sem, ↓reduceIte, reduceCtorEq, zqa, zqb, zqc, zqd, zqe, zqf, zqg, zqh, zqi, zqj, zqk, zql, zqm, eD, g15e, g19c, hE6, hE6l, hX4, hxc]
                refine ⟨_, Tryz.call28, (fits_calls E xd _ (by have := hsmE.outs; omega) (by omega)).mono ?_⟩
                rintro e σ1 ⟨rfl, rfl⟩
                simp only [go_sem, ↓reduceIte, reduceCtorEq, zqa, zqb, zqc, zqd, zqe, zqf, zqg, zqh, zqi, zqj, zqk, zql, zqm, hft]
                refine hK _ _ ?_; clear hK K
                refine Goes.condT rfl ?_
                refine Goes.seq ?_
                refine Goes.region [] fun K hK => ?_; simp (maxSteps := 4000000) only [go_sem, ↓reduceIte, reduceCtorEq, zqa, zqb, zqc, zqd, zqe, zqf, zqg, zqh, zqi, zqj, zqk, zql, zqm]
                refine hK _ _ ?_; clear hK K
                refine Goes.ret hC Tryz.func12 (by simp [go_sem]) ?_
                simp only [go_sem, ↓reduceIte, reduceCtorEq, zqa, zqb, zqc, zqd, zqe, zqf, zqg, zqh, zqi, zqj, zqk, zql, zqm]
                rw [he]; rfl
              · have hes : evalStep g l n made = .inr (made ++ xd.outs) := by unfold evalStep; rw [hEe, hmn, hFe, hck]; simp only [hft]; rfl
                rw [evalGo, hes] at hgo
                have hxo := cookM_outs hEok.cmd hck
                refine Goes.region [4, 8, 11, 12, 15, 19, 20, 49, 50, 51] fun K hK => ?_; simp (maxSteps := 4000000) only [go_sem, ↓reduceIte, reduceCtorEq, zqa, zqb, zqc, zqd, zqe, zqf, zqg, zqh, zqi, zqj, zqk, zql, zqm, eD, g15e, g19c, hE6, hE6l, hX4, hxc]
                refine ⟨_, Tryz.call28, (fits_calls E xd _ (by have := hsmE.outs; omega) (by omega)).mono ?_⟩
                rintro e σ1 ⟨rfl, rfl⟩
                simp only [go_sem, ↓reduceIte, reduceCtorEq, zqa, zqb, zqc, zqd, zqe, zqf, zqg, zqh, zqi, zqj, zqk, zql, zqm, hft]
                refine hK _ _ ?_; clear hK K
                refine Goes.condF rfl ?_
                refine Goes.skip ?_
                have hxh : xd.d.cells.headD .any = .slc (xd.outs.map XFile.d) := rfl
                have ho := hgr3.oget
                have hd := hgr3.sdel
                have htk : List.take made.length (made.map XFile.d) = made.map XFile.d := List.take_of_length_le (by simp)
                refine Goes.region [4, 8, 11, 12, 19, 49, 50, 51] fun K hK => ?_; simp (maxSteps := 4000000) only [go_sem, ↓reduceIte, reduceCtorEq, zqa, zqb, zqc, zqd, zqe, zqf, zqg, zqh, zqi, zqj, zqk, zql, zqm, g19c, hxc, hxh, ho, hd, htk]
                refine ⟨⟨by simp, plain_file xd.outs, by simp only [List.length_map]; omega, by simp only [List.length_map]; omega⟩, fun ob hz hf => ?_⟩
                refine hK _ _ ?_; clear hK K
                have hmm : made.map XFile.d ++ xd.outs.map XFile.d = (made ++ xd.outs).map XFile.d := (List.map_append ..).symm
                rw [hmm] at hz ⊢
                have hgN : GrD ob 2 ((made ++ xd.outs).map XFile.d) (eS b3 b4 b8 mb m g l) := ⟨fun c hc => by
                  have hne : ∀ {b c : Nat} {x : AObj} {τ : Store}, sget b ((c, x) :: τ) = none → b ≠ c ∧ sget b τ = none := fun {b c x τ} h => by
                    rw [sget_cons] at h
                    split at h
                    · cases h
                    · rename_i e; exact ⟨e, h⟩
                  exact (hne (hne (hne (hf c hc)).2).2).2, hz⟩
                refine Goes.le (ELe.refl _) (σ' := cellsOf ob 2 ((made ++ xd.outs).map XFile.d) ++ eS b3 b4 b8 mb m g l) (SLe.append (SLe.append_left _ _) ?_) ?_
                · have hgB : GrD ob 2 ((made ++ xd.outs).map XFile.d) ((b19, .arr 4 [xd.d]) :: (b15, .arr 6 [E.d]) :: (b14, .arr 1 [nD n]) :: eS b3 b4 b8 mb m g l) := ⟨hf, hz⟩
                  exact (sle_push (sle_push (sle_push (SLe.refl _) hb14e) hb15e) hb19e).trans hgB.sle
                have hml2 : ((made ++ xd.outs).map XFile.d).length = (made ++ xd.outs).length := List.length_map ..
                rw [hml2]
                refine Goes.inBlock ?_
                refine Goes.region [4, 8, 11, 12, 49, 50, 51] fun K hK => ?_; simp (maxSteps := 4000000) only [go_sem, ↓reduceIte, reduceCtorEq, zqa, zqb, zqc, zqd, zqe, zqf, zqg, zqh, zqi, zqj, zqk, zql, zqm]
                refine hK _ _ ?_; clear hK K
                refine Goes.rebase [4, 8, 11, 12, 49, 50, 51] ?_
                simp only [go_sem, ↓reduceIte, reduceCtorEq, zqa, zqb, zqc, zqd, zqe, zqf, zqg, zqh, zqi, zqj, zqk, zql, zqm]
                rw [wrap_succ i (by omega)]
                refine ih (i + 1) _ _ ⟨ob, made ++ xd.outs, ⟨by omega, hgo, ?_, ?_, hgN⟩, rfl, rfl⟩ (by omega)
                · have h1 := fit_len (Bool.and_eq_true _ _ ▸ hft).2
                  have h2 := hsmE.outs
                  rw [List.length_append]; omega
                · intro f hf2
                  rcases List.mem_append.1 hf2 with h | h
                  · exact hmd f h
                  · exact cookM_files hck f h
            · have hes : evalStep g l n made = .inl 6 := by unfold evalStep; rw [hEe, if_pos hmn]
              have he : evalGo g l plan [] = .inl 6 := by rw [← hgo, evalGo, hes]
              refine Goes.regionM [4, 8, 11, 12, 14, 15, 49, 50, 51] [64] fun K hK => ?_; simp (maxSteps := 4000000) only [go_sem, ↓reduceIte, reduceCtorEq, zqa, zqb, zqc, zqd, zqe, zqf, zqg, zqh, zqi, zqj, zqk, zql, zqm, g15c]
              refine ⟨by decide, ?_⟩
              refine ⟨_, Tryz.call36, (hcc _).mono ?_⟩
              rintro e σ1 ⟨rfl, rfl⟩
              simp only [go_sem, ↓reduceIte, reduceCtorEq, zqa, zqb, zqc, zqd, zqe, zqf, zqg, zqh, zqi, zqj, zqk, zql, zqm]
              refine ⟨_, Tryz.call34, (containsFunc_str E.needs _ [.ptr b8 1 0 0, .ptr b4 1 0 0] (missB g l) _ (by omega) (eval1_tests g mb b8 b4 l _ _ gmb g8b g4b (by omega) hb40)).mono ?_⟩
              rintro e σ1 ⟨rfl, rfl⟩
              simp only [go_sem, ↓reduceIte, reduceCtorEq, zqa, zqb, zqc, zqd, zqe, zqf, zqg, zqh, zqi, zqj, zqk, zql, zqm, hmn]
              refine hK _ _ ?_; clear hK K
              refine Goes.condT rfl ?_
              refine Goes.seq ?_
              refine Goes.region [] fun K hK => ?_; simp (maxSteps := 4000000) only [go_sem, ↓reduceIte, reduceCtorEq, zqa, zqb, zqc, zqd, zqe, zqf, zqg, zqh, zqi, zqj, zqk, zql, zqm]
              refine hK _ _ ?_; clear hK K
              refine Goes.ret hC Tryz.func12 (by simp [go_sem]) ?_
              simp only [go_sem, ↓reduceIte, reduceCtorEq, zqa, zqb, zqc, zqd, zqe, zqf, zqg, zqh, zqi, zqj, zqk, zql, zqm]
              rw [he]; rfl
          · have hie : i = plan.length := by
              have := h52
              simp at this; omega
            subst hie
            rw [List.drop_length, evalGo] at hgo
            refine Goes.exit rfl ?_
            refine Goes.seq ?_
            refine Goes.region [12] fun K hK => ?_; simp (maxSteps := 4000000) only [go_sem, ↓reduceIte, reduceCtorEq, zqa, zqb, zqc, zqd, zqe, zqf, zqg, zqh, zqi, zqj, zqk, zql, zqm]
            refine hK _ _ ?_; clear hK K
            refine Goes.ret hC Tryz.func12 (by simp [go_sem]) ?_
            simp only [go_sem, ↓reduceIte, reduceCtorEq, zqa, zqb, zqc, zqd, zqe, zqf, zqg, zqh, zqi, zqj, zqk, zql, zqm]
            rw [← hgo]
            exact ⟨om, ⟨fun c hc => rfl, hgr.zero⟩, rfl, SLe.append_left _ _⟩
        · have he : evalG g l ts = .inl 6 := by unfold evalG; rw [hw]; simp only [Bool.false_eq_true, if_false, hp, hmt, if_true]
          refine Goes.region [2, 4, 8, 10, 11] fun K hK => ?_; simp (maxSteps := 4000000) only [go_sem, ↓reduceIte, reduceCtorEq, zqa, zqb, zqc, zqd, zqe, zqf, zqg, zqh, zqi, zqj, zqk, zql, zqm]
          refine ⟨_, Tryz.call34, (containsFunc_str (targetsOr g ts) _ [.ptr b8 1 0 0, .ptr b4 1 0 0] (missB g l) _ (by omega) (eval1_tests g mb b8 b4 l _ _ gm g8 g4 (by omega) hb40)).mono ?_⟩
          rintro e σ1 ⟨rfl, rfl⟩
          simp only [go_sem, ↓reduceIte, reduceCtorEq, zqa, zqb, zqc, zqd, zqe, zqf, zqg, zqh, zqi, zqj, zqk, zql, zqm, hmt]
          refine hK _ _ ?_; clear hK K
          refine Goes.condT rfl ?_
          refine Goes.seq ?_
          refine Goes.region [] fun K hK => ?_; simp (maxSteps := 4000000) only [go_sem, ↓reduceIte, reduceCtorEq, zqa, zqb, zqc, zqd, zqe, zqf, zqg, zqh, zqi, zqj, zqk, zql, zqm]
          refine hK _ _ ?_; clear hK K
          refine Goes.ret hC Tryz.func12 (by simp [go_sem]) ?_
          simp only [go_sem, ↓reduceIte, reduceCtorEq, zqa, zqb, zqc, zqd, zqe, zqf, zqg, zqh, zqi, zqj, zqk, zql, zqm]
          rw [he]; rfl
    · have he : evalG g l ts = .inl 5 := by unfold evalG; rw [if_pos hw]
      refine Goes.region [2, 4, 8] fun K hK => ?_; simp (maxSteps := 4000000) only [go_sem, ↓reduceIte, reduceCtorEq, zqa, zqb, zqc, zqd, zqe, zqf, zqg, zqh, zqi, zqj, zqk, zql, zqm, g8, hgdl, hgdh]
      refine ⟨_, Tryz.call25, (wrong_calls g hgok mb _ gm (sources_size hgok fun e he => (hev.edge e (by rw [← hgm]; exact he)).needs)).mono ?_⟩
      rintro e σ1 ⟨rfl, rfl⟩
      simp only [go_sem, ↓reduceIte, reduceCtorEq, zqa, zqb, zqc, zqd, zqe, zqf, zqg, zqh, zqi, zqj, zqk, zql, zqm, hw]
      refine hK _ _ ?_; clear hK K
      refine Goes.condT rfl ?_
      refine Goes.seq ?_
      refine Goes.region [] fun K hK => ?_; simp (maxSteps := 4000000) only [go_sem, ↓reduceIte, reduceCtorEq, zqa, zqb, zqc, zqd, zqe, zqf, zqg, zqh, zqi, zqj, zqk, zql, zqm]
      refine hK _ _ ?_; clear hK K
      refine Goes.ret hC Tryz.func12 (by simp [go_sem]) ?_
      simp only [go_sem, ↓reduceIte, reduceCtorEq, zqa, zqb, zqc, zqd, zqe, zqf, zqg, zqh, zqi, zqj, zqk, zql, zqm]
      rw [he]; rfl
end Go.Ab.S16
set_option linter.unusedSimpArgs false
set_option linter.unusedVariables false
set_option linter.constructorNameAsVariable false
namespace Go.Ab
open Go
variable {P : Program} {N : Slots} {C : Ctx P N} {k : List Item} {env : Env} {σ : Store} {ops : Array Oper} {i j : Nat} {rest : List Nat} {o1 o2 : Oper}
theorem Goes.opBytes (ho1 : ops[i]? = some o1) (hg1 : o1.guard = none) (ho2 : ops[j]? = some o2) (hg2 : o2.guard = none) {T e8 : TypeId} {len k1 k2 : Nat} {ps : Array (Nat × Operand)} (hop1 : o1.op = .buildSlice T len ps) (hd1 : o1.dst = some k1) (hop2 : o2.op = .convert T T (.tmp k1)) (hd2 : o2.dst = some k2)
    (hN1 : dstB N (some k1)) (hN2 : dstB N (some k2)) (hT : P.underlying T = some (.slice e8)) (h8 : P.underlying e8 = some (.int .u8))
    (hv : vcRes P (Pan C) (fun env' σ' => Goes C (.inRegion ops rest :: k) (eputo (some k2) (eget k1 env') env') σ') (some k1) env σ (aBuildSlice P T len (ps.toList.map fun p => (p.1, ev env p.2)))) :
    Goes C (.inRegion ops (i :: j :: rest) :: k) env σ := by
  intro a w S hd h
  unfold aBuildSlice at hv
  split at hv
  · rename_i e he
    have hee : e = e8 := by
      have := relem_eq he
      rw [hT] at this
      cases this; rfl
    subst hee
    split at hv
    · rename_i n z hn hz
      split at hv
      · rename_i xs hxs
        obtain ⟨⟨h1, h2, h3, h4, h5⟩, hk⟩ := hv
        have hzr : Rep w S (ofV z) z := rep_ofV h1
        have hzc := rep_cells hzr h3
        have hzs : z.cells.size = n := by have := hzc.length; simpa [h2] using this
        obtain ⟨c', hf, hr', hs', hl'⟩ := fillSlice_ok (n := n) (len := len) _ (ps.toList.map fun p => (p.1, a.eval p.2)) _ xs ((Array.range (len * n)).map (z.cells[· % z.cells.size]!)) hxs (by simp) (parts_rep h ps.toList)
          (fun x hx => by rw [(List.mem_replicate.1 hx).2]; exact h2) (by simp) (made_zeros hzc h2)
        have hfl := flat_length xs n hs'
        have hcsz : c'.size = len * n := by have := hr'.length; rw [hfl, hl'] at this; simpa using this
        have hnb : ¬ (16777216 < len * n) := by omega
        have hf' : Instr.fill (fun i => some (i * n, n)) (Array.map (fun x => z.cells[x % z.cells.size]!) (Array.range (len * n))) (List.map (fun p => (p.1, a.eval p.2)) ps.toList) = some c' := hf
        have hrun1 : (execOp a.eval o1).run P w = .ok (.value (.slice (some ⟨w.heap.size, 0, none⟩) len len)) (w.alloc (.cells c' e)) := by
          by_cases h0 : len * n = 0
          · have hz0 : Array.map (fun x => z.cells[x % z.cells.size]!) (Array.range 0) = (#[] : Array Value) := by simp
            rw [h0, hz0] at hf'
            simp [execOp, hop1, Instr.buildSlice, run_underlying (relem_eq he), run_sizeOf hn, h0, hf', newRow, Array.range_zero']
          · simp [execOp, hop1, Instr.buildSlice, run_underlying (relem_eq he), run_sizeOf hn, run_zeroValue hz, h0, hnb, hf', newRow]
        have hw1 : Region.wanted o1 (yielded ops a.tmps) = true := by simp [Region.wanted, hg1]
        refine op_run ho1 hw1 (fun c hc => by rw [hop1] at hc; cases hc) ?_
        simp only [Oper.wp, Oper.upon, hrun1]
        have hw2 : Region.wanted o2 (yielded ops (a.put o1.dst (.slice (some ⟨w.heap.size, 0, none⟩) len len)).tmps) = true := by simp [Region.wanted, hg2]
        refine op_run ho2 hw2 (fun c hc => by rw [hop2] at hc; cases hc) ?_
        have hob : RepObj (w.alloc (.cells c' e (c'.size, c'.size + 1))) S w.heap.size (.arr n xs) :=
          ⟨c', e, c'.size, c'.size + 1, _, heap_alloc w _, hr'.ev (ev_alloc h.fr.lt _), fun k x hx => by simpa using hx, hs', .inr (Nat.le_refl _)⟩
        have hrep : Rep (w.alloc (.cells c' e (c'.size, c'.size + 1))) S (.own (some w.heap.size) n len) (.slice (some ⟨w.heap.size, 0, none⟩) len len) := Rep.own (heap_alloc w _) (Nat.le_refl _) (by omega) (by omega)
        have hs1 := sim_put (dst := some k1) h (dstB_ok hN1) hrep (store_alloc h.store h.fr.lt _ _ hob) (fr_alloc h _ (.arr n xs))
        have hs2 := sim_put (dst := some k2) hs1 (dstB_ok hN2) hrep hs1.store (Fr.refl _ hs1.fr.lt)
        have hev : (a.put o1.dst (.slice (some ⟨w.heap.size, 0, none⟩) len len)).eval (.tmp k1) = .slice (some ⟨w.heap.size, 0, none⟩) len len := by
          have hlt : k1 < a.tmps.size := by rw [h.size.1]; exact (dstB_ok hN1 k1 rfl).1
          rw [hd1]
          simp [Act.put, Act.eval, hlt]
        have hrun2 : (execOp (a.put o1.dst (.slice (some ⟨w.heap.size, 0, none⟩) len len)).eval o2).run P (w.alloc (.cells c' e)) = .ok (.value (.slice (some ⟨w.heap.size, 0, none⟩) len len)) (w.alloc (.cells c' e (c'.size, c'.size + 1))) := by
          have := Lib.run_convert_bytes_const (P := P) w T e c' len len hT h8
          simp [execOp, hop2, hev, this]
        simp only [Oper.wp, Oper.upon, hrun2]
        have hgo := hk _ (not_sdom_size h.store)
        rw [hd1, hd2]
        refine hgo _ _ S ?_ ?_
        · rw [put_defers, put_defers]; exact hd
        · simpa [eputo, eget_eput] using hs2
      · exact hv.elim
    · exact hv.elim
  · exact hv.elim
end Go.Ab
set_option linter.unusedSimpArgs false
set_option linter.unusedVariables false
set_option linter.constructorNameAsVariable false
namespace Go.Ab.S16
open Go Go.Proofs Go.RowKit
def resF : Nat ⊕ List XFile → List XFile
  | .inl _ => []
  | .inr l => l
def resE : Nat ⊕ List XFile → Nat
  | .inl c => c
  | .inr _ => 0
theorem eval_calls (m : XMan) (l : List XFile) (ts : List ByteArray) (hev : EvOk m l ts) (σ : Store) :
    ACalls Tryz.prog 12 [m.d, .slc (l.map XFile.d), .slc (ts.map sD)] σ (fun e σ' => e = .ret (.tup [.slc ((resF (evalM m l ts)).map XFile.d), eD (resE (evalM m l ts))]) ∧ σ' = σ) := by
  have h := eval_own m l ts hev
  have h2 : ACalls Tryz.prog 12 [m.d, .slc (l.map XFile.d), .slc (ts.map sD)] [] (fun e σ' => (e = .ret (.tup [.slc ((resF (evalM m l ts)).map XFile.d), eD (resE (evalM m l ts))]) ∧ σ' = []) ∨ ∃ fs b, evalM m l ts = .inr fs ∧ e = .ret (.tup [.own (some b) 2 fs.length, eD 0]) ∧ σ' = [(b, .arr 2 (fs.map XFile.d))]) := by
    refine (h.ret_le (R' := fun e σ' => (e = .ret (.tup [.slc ((resF (evalM m l ts)).map XFile.d), eD (resE (evalM m l ts))])) ∨ ∃ fs b, evalM m l ts = .inr fs ∧ e = .ret (.tup [.own (some b) 2 fs.length, eD 0]) ∧ SLe [(b, .arr 2 (fs.map XFile.d))] σ') fun e σ' hR => ?_).forget fun e σ' hR => ?_
    · cases hc : evalM m l ts with
      | inl c =>
        rw [hc] at hR
        refine .inr ⟨_, _, hR, fun w S v hv => ?_, .inl rfl⟩
        cases hv with
        | tup hr =>
          obtain ⟨v0, vs, rfl, r0, hr2⟩ := hr.cons_inv
          exact .tup (.cons (DLe.nil_slc w S v0 r0) hr2)
      | inr fs =>
        rw [hc] at hR
        obtain ⟨o, hg, he, hs⟩ := hR
        cases o with
        | some b => exact .inl (.inr ⟨fs, b, rfl, he, hs⟩)
        | none =>
          have hx := hg.zero rfl
          refine .inr ⟨_, _, he, fun w S v hv => ?_, .inl rfl⟩
          cases hv with
          | tup hr =>
            obtain ⟨v0, vs, rfl, r0, hr2⟩ := hr.cons_inv
            refine .tup (.cons ?_ hr2)
            show Rep w S (.slc (fs.map XFile.d)) v0
            rw [hx]
            exact DLe.own_slc _ _ w S v0 r0
    · rcases hR with h | ⟨fs, b, h1, h2, h3⟩
      · exact ⟨[], SLe.nil _, .inl ⟨h, rfl⟩⟩
      · exact ⟨_, h3, .inr ⟨fs, b, h1, h2, rfl⟩⟩
  refine h2.pub1 (R' := fun e => e = .ret (.tup [.slc ((resF (evalM m l ts)).map XFile.d), eD (resE (evalM m l ts))])) (fun e σ' hR => ?_) σ
  rcases hR with h3 | ⟨fs, b, hc, rfl, rfl⟩
  · exact .inl h3
  · refine .inr ⟨_, b, 2, _, rfl, rfl, ?_⟩
    rw [hc]
    unfold eD resF resE
    simp only [D.pub, pubs, true_and]
    rw [if_pos (by simp), List.take_of_length_le (by simp)]
    rfl
def str (l : List UInt8) : ByteArray := lB l
/-- The example's manifest. -/
def awM : XMan := ⟨[⟨[lB [99]], [lB [98]], [], [], lB [99, 97, 116, 32, 98, 32, 98, 32, 62, 32, 99], lB []⟩, ⟨[lB [98]], [lB [97]], [], [], lB [99, 97, 116, 32, 97, 32, 62, 32, 98], lB []⟩], []⟩
def awL : List XFile := [⟨lB [97], [120]⟩]
def awOut : List XFile := [⟨lB [98], [120]⟩, ⟨lB [99], [120, 120]⟩]
theorem aw_eval : evalM awM awL [] = .inr awOut := by kernel_rfl
end Go.Ab.S16
