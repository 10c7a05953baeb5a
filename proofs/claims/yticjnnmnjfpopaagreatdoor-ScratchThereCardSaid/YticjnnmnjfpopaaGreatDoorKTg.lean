/- A part of a proof about the given program: the abstract machine, what functions compute, laid in few texts. -/
import Derived.Test.YticjnnmnjfpopaaGreatDoorKTf
set_option linter.unusedSimpArgs false
set_option linter.unusedVariables false
set_option linter.constructorNameAsVariable false
namespace Go.Ab.S16
open Go Go.Proofs Go.RowKit
def eD (n : Int) : D := .v (.int .i64 n)
def nilP : D := .v (.string ⟨#[]⟩)
theorem lB_eq (p q : List UInt8) : ((lB p).toList == (⟨q.toArray⟩ : ByteArray).toList) = decide (p = q) := by
  rw [tl_data, tl_data]
  show (p == q) = decide (p = q)
  rw [Bool.eq_iff_iff]
  simp
def ClSh (l r b2 b3 b4 : Nat) (x : AObj) (parts : List (List UInt8)) (τ : Store) : Prop :=
  ∃ o xs, GrD o 1 xs (clS l r b2 b3 b4 x nilP (eD 0) (.own o 1 parts.length)) ∧ xs.take parts.length = parts.map pD ∧ parts.length ≤ xs.length ∧ τ = cellsOf o 1 xs ++ clS l r b2 b3 b4 x nilP (eD 0) (.own o 1 parts.length)
def ClFail (l r b2 b3 b4 : Nat) (x : AObj) (τ : Store) : Prop :=
  ∃ o xs v4, GrD o 1 xs (clS l r b2 b3 b4 x nilP (eD 5) v4) ∧ τ = cellsOf o 1 xs ++ clS l r b2 b3 b4 x nilP (eD 5) v4
theorem sle_cons2 {b : Nat} {o : AObj} {τ σ : Store} (h : SLe τ σ) : SLe ((b, o) :: τ) ((b, o) :: σ) := fun c x hc => by
  rw [sget_cons] at hc ⊢
  split at hc
  · rename_i e; rw [if_pos e]; exact hc
  · rename_i e; rw [if_neg e]; exact h c x hc
theorem apart_cons_right {b : Nat} {o : AObj} {ρ τ : Store} (hb : sget b ρ = none) (h : Apart ρ τ) : Apart ρ ((b, o) :: τ) := fun c hc => by
  have hne : c ≠ b := fun e => hc (by rw [e]; exact hb)
  rw [sget_cons, if_neg hne]
  exact h c hc
theorem clean_calls (s : List UInt8) (hs : s.length < 2 ^ 40) (σ : Store) :
    AC Tryz.prog 138 [.v (.string (lB s))] σ (fun e σ' => e = .ret (.tup [.v (.string (lB (cleanM s).1)), eD (cleanM s).2]) ∧ σ' = σ) := by
  refine AC.still ?_ σ
  refine AC.forget (R := fun e _ => e = .ret (.tup [.v (.string (lB (cleanM s).1)), eD (cleanM s).2])) ?_ fun e σ' h => ⟨[], SLe.nil _, h, rfl⟩
  refine AC.of_body Tryz.func138 rfl Tryz.ntmps138 (by simp) fun C hC => ?_
  have hhp : Lib.hasPrefix (lB s).data.toList (⟨#[47]⟩ : ByteArray).data.toList = decide (s.head? = some 47) := by
    show List.isPrefixOf [47] s = _
    cases s with
    | nil => rfl
    | cons c r =>
      show (47 == c && true) = decide (some c = some 47)
      rw [Bool.and_true]
      by_cases h : c = 47
      · subst h; rfl
      · rw [decide_eq_false (by simpa using h), beq_eq_false_iff_ne]; exact fun e => h e.symm
  have hsz := lB_size s
  have hip := idx_plain (lB s)
  have hbl : bL (lB s) = s := rfl
  rw [hbl] at hip
  refine Gs.sq (Gs.rg [0] fun K hK => ?_); simp (maxSteps:=9^7) only [go_sem]
  intro b2 b3 hb3
  have h32 : b3 ≠ b2 := by
    intro e; rw [e] at hb3; simp at hb3
  have g2 : ∀ v2 v3, sget b2 [(b3, .arr 1 [v3]), (b2, .arr 1 [v2])] = some (.arr 1 [v2]) := fun v2 v3 => by rw [sget_cons, if_neg (Ne.symm h32), sget_self]
  have g3 : ∀ v2 v3, sget b3 [(b3, .arr 1 [v3]), (b2, .arr 1 [v2])] = some (.arr 1 [v3]) := fun v2 v3 => sget_self ..
  have s2 : ∀ v2 v3 w, sset b2 (.arr 1 [w]) [(b3, .arr 1 [v3]), (b2, .arr 1 [v2])] = [(b3, .arr 1 [v3]), (b2, .arr 1 [w])] := fun v2 v3 w => by rw [sset_ne (Ne.symm h32), sset_self]
  have s3 : ∀ v2 v3 w, sset b3 (.arr 1 [w]) [(b3, .arr 1 [v3]), (b2, .arr 1 [v2])] = [(b3, .arr 1 [w]), (b2, .arr 1 [v2])] := fun v2 v3 w => sset_self
  refine hK _ _ ?_; clear hK K
  refine Gs.scope ?_
  refine Gs.sq ?_
  refine Gs.bk ?_
  refine Gs.sq (Gs.rg [0, 2, 3] fun K hK => ?_); simp (maxSteps:=9^7) only [go_sem, hsz]
  refine hK _ _ ?_; clear hK K
  refine Gs.cond rfl (fun h7 => ?_) (fun h7 => ?_)
  · have hlong : s.length > 1000 := by
      have := h7
      simp at this; omega
    refine Gs.sq (Gs.rg [2, 3] fun K hK => ?_); simp (maxSteps:=9^7) only [go_sem, g2, g3, s2, s3]
    refine hK _ _ ?_; clear hK K
    have hcl : cleanM s = ([], 3) := by unfold cleanM; rw [if_pos hlong]
    refine Gs.ret hC Tryz.func138 (by simp [go_sem, g2, g3]) ?_
    simp only [go_sem, g2, g3]
    rw [hcl]; rfl
  · have hlong : ¬ s.length > 1000 := by
      have := h7
      simp at this; omega
    refine Gs.sq (Gs.sq ?_)
    refine Gs.rg [0, 2, 3] fun K hK => ?_; simp (maxSteps:=9^7) only [go_sem]
    refine ⟨_, Tryz.call161, (hasPrefix_calls (lB s) ⟨#[47]⟩ _).mono ?_⟩
    rintro e σ1 ⟨rfl, rfl⟩
    simp only [go_sem, hhp]
    refine hK _ _ ?_; clear hK K
    refine Gs.cond rfl (fun h11 => ?_) (fun h11 => ?_)
    · have hh : s.head? = some 47 := by simpa using h11
      refine Gs.sk ?_
      refine Gs.condT (congrArg (fun b => D.v (Value.bool b)) h11) ?_
      refine Gs.sq (Gs.rg [2, 3] fun K hK => ?_); simp (maxSteps:=9^7) only [go_sem, g2, g3, s2, s3]
      refine hK _ _ ?_; clear hK K
      have hcl : cleanM s = ([], 5) := by unfold cleanM; rw [if_neg hlong, if_pos (.inl hh)]
      refine Gs.ret hC Tryz.func138 (by simp [go_sem, g2, g3]) ?_
      simp only [go_sem, g2, g3]
      rw [hcl]; rfl
    · have hh : ¬ s.head? = some 47 := by simpa using h11
      refine Gs.rg [0, 2, 3] fun K hK => ?_; simp (maxSteps:=9^7) only [go_sem]
      refine ⟨_, Tryz.call165, (strIndexFunc_calls (lB s) 166 (fun r => !plainN r) _ Tryz.call166 (fun r σ => clean1_calls r σ)).mono ?_⟩
      rintro e σ1 ⟨rfl, rfl⟩
      simp only [go_sem, hip]
      refine hK _ _ ?_; clear hK K
      refine Gs.cond rfl (fun h11 => ?_) (fun h11 => ?_)
      · have hpl : s.all plainB = false := by simpa using h11
        refine Gs.sq (Gs.rg [2, 3] fun K hK => ?_); simp (maxSteps:=9^7) only [go_sem, g2, g3, s2, s3]
        refine hK _ _ ?_; clear hK K
        have hcl : cleanM s = ([], 5) := by unfold cleanM; rw [if_neg hlong, if_pos (.inr hpl)]
        refine Gs.ret hC Tryz.func138 (by simp [go_sem, g2, g3]) ?_
        simp only [go_sem, g2, g3]
        rw [hcl]; rfl
      · have hall : ¬ s.all plainB = false := by simpa using h11
        refine Gs.sk ?_
        refine Gs.ib ?_
        refine Gs.sq (Gs.rg [0, 2, 3] fun K hK => ?_); simp (maxSteps:=9^7) only [go_sem]
        intro b4 hb4
        refine hK _ _ ?_; clear hK K
        refine Gs.row_le (ys := [.own none 1 0]) (fun w S vs h => by
          obtain ⟨v, vs, rfl, h1, h2⟩ := RepL.cons_inv (show RepL w S [.v (.slice none 0 0)] vs from h)
          exact .cons (DLe.nil_own 1 w S v h1) h2) (by simp [D.cells]) ?_
        refine Gs.sq ?_
        refine Gs.label ?_
        refine Gs.sq (Gs.sq ?_)
        refine Gs.rg [0, 2, 3, 4] fun K hK => ?_; simp (maxSteps:=9^7) only [go_sem]
        refine ⟨_, Tryz.call168, (splitS_calls s 47 _).mono ?_⟩
        rintro e σ1 ⟨bs, bc, bk, hN, hap, rfl, rfl⟩
        simp only [go_sem]
        refine hK _ _ ?_; clear hK K
        refine Gs.bk ?_
        refine Gs.rebase [2, 3, 4, 18] ?_
        simp only [go_sem]
        refine Gs.rangeFuncL hC.toM rfl Tryz.call208 fun l1 r1 C1 LP1 hLP1 hr1 hl1 hC1 => ?_
        rw [sget_append] at hr1
        have hr2 : sget r1 (seqC bs bc bk s 47 0) = none ∧ sget r1 [(b4, .arr 1 [.own none 1 0]), (b3, .arr 1 [.v (.int .i64 0)]), (b2, .arr 1 [.v (.string ⟨#[]⟩)])] = none := by
          split at hr1
          · cases hr1
          · exact ⟨by assumption, hr1⟩
        have hlr : l1 ≠ r1 := by
          intro e; rw [e, sget_self] at hl1; cases hl1
        rw [sget_cons, if_neg hlr, sget_append] at hl1
        have hl2 : sget l1 (seqC bs bc bk s 47 0) = none ∧ sget l1 [(b4, .arr 1 [.own none 1 0]), (b3, .arr 1 [.v (.int .i64 0)]), (b2, .arr 1 [.v (.string ⟨#[]⟩)])] = none := by
          split at hl1
          · cases hl1
          · exact ⟨by assumption, hl1⟩
        have hne : ∀ {b c : Nat} {x : AObj} {τ : Store}, sget b ((c, x) :: τ) = none → b ≠ c ∧ sget b τ = none := fun {b c x τ} h => by
          rw [sget_cons] at h
          split at h
          · cases h
          · rename_i e; exact ⟨e, h⟩
        have hCN : ClN l1 r1 b2 b3 b4 := ⟨hlr, (hne (hne (hne hl2.2).2).2).1, (hne (hne hl2.2).2).1, (hne hl2.2).1, (hne (hne (hne hr2.2).2).2).1, (hne (hne hr2.2).2).1, (hne hr2.2).1, Ne.symm h32, Ne.symm (hne (hne hb4).2).1, Ne.symm (hne hb4).1⟩
        have hround : ∀ (part : List UInt8) (parts : List (List UInt8)) (τ : Store), ClSh l1 r1 b2 b3 b4 (LP1 .ready none) parts τ → parts.length < 2 ^ 40 → AYields Tryz.prog l1 [.v (.string (lB part))] τ (fun e τ' => match closeP parts part with
            | some ps => e = .ret (.v (.bool true)) ∧ ClSh l1 r1 b2 b3 b4 (LP1 .ready none) ps τ'
            | none => e = .ret (.v (.bool false)) ∧ ClFail l1 r1 b2 b3 b4 (LP1 .done (some .ret)) τ') := by
          rintro part parts τ ⟨o, xs, hgr, htk, hle, rfl⟩ hpl2
          refine AYields.of_bodyL hLP1 Tryz.func138 (hgr.keep cl_l) (by decide) rfl fun C2 hR1 => ?_
          simp only [go_sem, parEnv]
          have hsb : sset l1 (LP1 .busy none) (cellsOf o 1 xs ++ clS l1 r1 b2 b3 b4 (LP1 .ready none) nilP (eD 0) (.own o 1 parts.length)) = cellsOf o 1 xs ++ clS l1 r1 b2 b3 b4 (LP1 .busy none) nilP (eD 0) (.own o 1 parts.length) := by
            rw [hgr.sset (by rw [cl_l]; rfl), cl_sl]
          have hgr2 : GrD o 1 xs (clS l1 r1 b2 b3 b4 (LP1 .busy none) nilP (eD 0) (.own o 1 parts.length)) := cl_grd hgr
          have g4 := hgr2.keep (cl_4 hCN)
          have q0 := lB_eq part []
          have q1 := lB_eq part [46]
          have q2 := lB_eq part [46, 46]
          have hS2 : ∀ x v2 v3 v4 w, sset b2 (.arr 1 [w]) (cellsOf o 1 xs ++ clS l1 r1 b2 b3 b4 x v2 v3 v4) = cellsOf o 1 xs ++ clS l1 r1 b2 b3 b4 x w v3 v4 := fun x v2 v3 v4 w => by rw [(cl_grd hgr).sset (by rw [cl_2 hCN]; rfl), cl_s2 hCN]
          have hS3 : ∀ x v2 v3 v4 w, sset b3 (.arr 1 [w]) (cellsOf o 1 xs ++ clS l1 r1 b2 b3 b4 x v2 v3 v4) = cellsOf o 1 xs ++ clS l1 r1 b2 b3 b4 x v2 w v4 := fun x v2 v3 v4 w => by rw [(cl_grd hgr).sset (by rw [cl_3 hCN]; rfl), cl_s3 hCN]
          have hG2 : ∀ x v2 v3 v4, sget b2 (cellsOf o 1 xs ++ clS l1 r1 b2 b3 b4 x v2 v3 v4) = some (.arr 1 [v2]) := fun x v2 v3 v4 => (cl_grd hgr).keep (cl_2 hCN)
          have hG3 : ∀ x v2 v3 v4, sget b3 (cellsOf o 1 xs ++ clS l1 r1 b2 b3 b4 x v2 v3 v4) = some (.arr 1 [v3]) := fun x v2 v3 v4 => (cl_grd hgr).keep (cl_3 hCN)
          have hS4 : ∀ x v2 v3 v4 w, sset b4 (.arr 1 [w]) (cellsOf o 1 xs ++ clS l1 r1 b2 b3 b4 x v2 v3 v4) = cellsOf o 1 xs ++ clS l1 r1 b2 b3 b4 x v2 v3 w := fun x v2 v3 v4 w => by rw [(cl_grd hgr).sset (by rw [cl_4 hCN]; rfl), cl_s4 hCN]
          have hSl : ∀ x y v2 v3 v4, sset l1 y (cellsOf o 1 xs ++ clS l1 r1 b2 b3 b4 x v2 v3 v4) = cellsOf o 1 xs ++ clS l1 r1 b2 b3 b4 y v2 v3 v4 := fun x y v2 v3 v4 => by rw [(cl_grd hgr).sset (by rw [cl_l]; rfl), cl_sl]
          have ho := hgr2.oget
          have hd := hgr2.sdel
          refine Gs.rg [2, 3, 4, 19] fun K hK => ?_; simp (maxSteps:=9^7) only [go_sem]
          refine hK _ _ ?_; clear hK K
          refine Gs.beginRoundL hR1 hLP1 (hgr.keep cl_l) ?_
          simp only [go_sem, hsb]
          refine Gs.bk ?_
          refine Gs.sq (Gs.sq ?_)
          refine Gs.rg [2, 3, 4, 5] fun K hK => ?_; simp (maxSteps:=9^7) only [go_sem]
          refine hK _ _ ?_; clear hK K
          refine Gs.bk ?_
          refine Gs.sq (Gs.sq ?_)
          refine Gs.rg [2, 3, 4, 5, 20] fun K hK => ?_; simp (maxSteps:=9^7) only [go_sem, q0]
          refine hK _ _ ?_; clear hK K
          refine Gs.cond rfl (fun h21 => ?_) (fun h21 => ?_)
          · have h0 : part = [] := by simpa using h21
            refine Gs.sk ?_
            refine Gs.condT (congrArg (fun b => D.v (Value.bool b)) h21) ?_
            refine Gs.exit rfl ?_
            refine Gs.roundDoneL hR1 hLP1 ((cl_grd hgr).keep cl_l) ?_
            have hcp : closeP parts part = some parts := by unfold closeP; rw [if_pos (.inl h0)]
            rw [hcp]
            exact ⟨rfl, o, xs, hgr, htk, hle, hSl ..⟩
          · have h0 : ¬ part = [] := by simpa using h21
            refine Gs.rg [2, 3, 4, 5, 20] fun K hK => ?_; simp (maxSteps:=9^7) only [go_sem, q1]
            refine hK _ _ ?_; clear hK K
            refine Gs.cond rfl (fun h21 => ?_) (fun h21 => ?_)
            · have h1 : part = [46] := by simpa using h21
              refine Gs.exit rfl ?_
              refine Gs.roundDoneL hR1 hLP1 ((cl_grd hgr).keep cl_l) ?_
              have hcp : closeP parts part = some parts := by unfold closeP; rw [if_pos (.inr h1)]
              rw [hcp]
              exact ⟨rfl, o, xs, hgr, htk, hle, hSl ..⟩
            · have h1 : ¬ part = [46] := by simpa using h21
              refine Gs.sq (Gs.rg [2, 3, 4, 5, 20] fun K hK => ?_); simp (maxSteps:=9^7) only [go_sem, q2]
              refine hK _ _ ?_; clear hK K
              refine Gs.cond rfl (fun h24 => ?_) (fun h24 => ?_)
              · have h2 : part = [46, 46] := by simpa using h24
                refine Gs.sq (Gs.sq ?_)
                refine Gs.rg [2, 3, 4] fun K hK => ?_; simp (maxSteps:=9^7) only [go_sem, g4]
                refine hK _ _ ?_; clear hK K
                refine Gs.cond rfl (fun h28 => ?_) (fun h28 => ?_)
                · have h3 : parts = [] := by simpa using h28
                  refine Gs.sq (Gs.rg [2, 3] fun K hK => ?_); simp (maxSteps:=9^7) only [go_sem, hG2, hG3, hS2, hS3]
                  refine hK _ _ ?_; clear hK K
                  refine Gs.roundRetL hR1 hLP1 ((cl_grd hgr).keep cl_l) ?_
                  have hcp : closeP parts part = none := by unfold closeP; rw [if_neg (by rintro (h | h); exact h0 h; exact h1 h), if_pos h2, if_pos h3]
                  rw [hcp]
                  exact ⟨rfl, o, xs, _, cl_grd hgr, hSl ..⟩
                · have h3 : ¬ parts = [] := by simpa using h28
                  have h3l : 1 ≤ parts.length := by
                    cases parts with
                    | nil => exact absurd rfl h3
                    | cons x r => simp
                  have hw : IntKind.i64.wrap ((parts.length : Int) - 1) = ((parts.length - 1 : Nat) : Int) := by rw [wrap_in _ (by omega) (by omega)]; omega
                  refine Gs.sk ?_
                  refine Gs.sq (Gs.rg [2, 3, 4] fun K hK => ?_); simp (maxSteps:=9^7) only [go_sem, g4, hw, hS4]
                  refine ⟨⟨by omega, by omega⟩, ?_⟩
                  refine hK _ _ ?_; clear hK K
                  refine Gs.exit rfl ?_
                  refine Gs.roundDoneL hR1 hLP1 ((cl_grd hgr).keep cl_l) ?_
                  have hcp : closeP parts part = some parts.dropLast := by unfold closeP; rw [if_neg (by rintro (h | h); exact h0 h; exact h1 h), if_pos h2, if_neg h3]
                  rw [hcp]
                  have hdl : parts.dropLast.length = parts.length - 1 := List.length_dropLast ..
                  refine ⟨rfl, o, xs, cl_grd hgr, ?_, by omega, ?_⟩
                  · rw [hdl, List.dropLast_eq_take, List.map_take, ← htk, List.take_take]
                    congr 1; omega
                  · rw [hdl]; exact hSl ..
              · have h2 : ¬ part = [46, 46] := by simpa using h24
                refine Gs.sk ?_
                refine Gs.ib ?_
                refine Gs.regionM [2, 3, 4, 5] [36] fun K hK => ?_; simp (maxSteps:=9^7) only [go_sem, g4, ho, hd, htk, hS4]
                refine ⟨by decide, ⟨hle, fun y hy => by rw [hy]; exact ⟨rfl, rfl⟩, by rw [List.length_map]; omega, by rw [List.length_map]; omega⟩, fun ob hz hf => ?_⟩
                have hgr4 : GrD ob 1 (parts.map pD ++ [D.v (.string (lB part))]) (clS l1 r1 b2 b3 b4 (LP1 .busy none) nilP (eD 0) (.own o 1 parts.length)) := ⟨hf, hz⟩
                have g6 := hgr4.keep (cl_4 hCN)
                have hS5 : ∀ w, sset b4 (.arr 1 [w]) (cellsOf ob 1 (parts.map pD ++ [D.v (.string (lB part))]) ++ clS l1 r1 b2 b3 b4 (LP1 .busy none) nilP (eD 0) (.own o 1 parts.length)) = cellsOf ob 1 (parts.map pD ++ [D.v (.string (lB part))]) ++ clS l1 r1 b2 b3 b4 (LP1 .busy none) nilP (eD 0) w := fun w => by rw [hgr4.sset (by rw [cl_4 hCN]; rfl), cl_s4 hCN]
                simp only [go_sem, g6, hS5]
                refine hK _ _ ?_; clear hK K
                refine Gs.ib ?_
                refine Gs.roundDoneL hR1 hLP1 ((cl_grd hgr4).keep cl_l) ?_
                have hcp : closeP parts part = some (parts ++ [part]) := by unfold closeP; rw [if_neg (by rintro (h | h); exact h0 h; exact h1 h), if_neg h2]
                rw [hcp]
                have hln : (parts ++ [part]).length = (parts.map pD ++ [D.v (.string (lB part))]).length := by simp
                refine ⟨rfl, ob, parts.map pD ++ [.v (.string (lB part))], cl_grd hgr4, ?_, by omega, ?_⟩
                · rw [hln, List.take_length, List.map_append]; rfl
                · rw [hln, (cl_grd hgr4).sset (by rw [cl_l]; rfl), cl_sl]
        have hB : SeqB l1 47 0 (fun r τ => ∃ parts, ClSh l1 r1 b2 b3 b4 (LP1 .ready none) parts τ ∧ clGo r [] parts = clGo s [] [] ∧ lenP parts + r.length ≤ s.length) (fun e τ => match e with
            | .ret _ => (∃ parts, clGo s [] [] = some parts ∧ lenP parts ≤ s.length + 1 ∧ ClSh l1 r1 b2 b3 b4 (LP1 .ready none) parts τ) ∨ (clGo s [] [] = none ∧ ClFail l1 r1 b2 b3 b4 (LP1 .done (some .ret)) τ)
            | .panic _ => False) := by
          refine ⟨?_, ?_⟩
          · rintro r k τ ⟨parts, hsh, hgo, hln⟩ hk hkl
            have hpl := lenP_length parts
            rw [clGo_mid r [] parts k hk, List.nil_append] at hgo
            rw [Nat.add_zero]
            refine (hround (r.take k) parts τ hsh (by omega)).mono ?_
            intro e τ' h
            cases hc : closeP parts (r.take k) with
            | none =>
              rw [hc] at h hgo
              obtain ⟨rfl, hf⟩ := h
              exact .inr (.inl ⟨rfl, .inr ⟨hgo.symm, hf⟩⟩)
            | some ps =>
              rw [hc] at h hgo
              obtain ⟨rfl, hsh'⟩ := h
              have := lenP_close hc
              refine .inl ⟨rfl, ps, hsh', hgo, ?_⟩
              rw [List.length_take] at this
              rw [List.length_drop]
              omega
          · rintro r τ ⟨parts, hsh, hgo, hln⟩ hk
            have hpl := lenP_length parts
            rw [clGo_last r [] parts hk, List.nil_append] at hgo
            refine (hround r parts τ hsh (by omega)).mono ?_
            intro e τ' h
            cases hc : closeP parts r with
            | none =>
              rw [hc] at h hgo
              obtain ⟨rfl, hf⟩ := h
              exact .inl ⟨_, rfl, .inr ⟨hgo.symm, hf⟩⟩
            | some ps =>
              rw [hc] at h hgo
              obtain ⟨rfl, hsh'⟩ := h
              have := lenP_close hc
              exact .inl ⟨_, rfl, .inl ⟨ps, hgo.symm, by omega, hsh'⟩⟩
        have hfin : ∀ (o : Option Nat) (xs : List D) (x : AObj) (w2 w3 : Value) (v4 : D) (kk : List Item) (env : Env), GrD o 1 xs (clS l1 r1 b2 b3 b4 x (.v w2) (.v w3) v4) → eget 2 env = .ptr b2 1 0 0 → eget 3 env = .ptr b3 1 0 0 → D.tup [.v w2, .v w3] = .tup [.v (.string (lB (cleanM s).1)), eD (cleanM s).2] → Gs C1 (.code .ret :: kk) env (cellsOf o 1 xs ++ clS l1 r1 b2 b3 b4 x (.v w2) (.v w3) v4) := by
          intro o xs x w2 w3 v4 kk env hgr he2 he3 hv
          refine Gs.retM (σ' := [(b3, .arr 1 [.v w3]), (b2, .arr 1 [.v w2])]) hC1 Tryz.func138 (by simp) (fun r hr => ?_) ?_ (fun r hr => ?_) ?_ ?_
          · rw [List.mem_singleton.1 hr]
            exact hgr.keep (by unfold clS; rw [sget_cons, if_neg (Ne.symm hCN.lr), sget_self])
          · exact .cons (hgr.keep (cl_3 hCN)) (.cons (hgr.keep (cl_2 hCN)) (SLe.nil _))
          · rw [List.mem_singleton.1 hr, sget_cons, if_neg hCN.r3, sget_cons, if_neg hCN.r2]; rfl
          · simp [go_sem, he2, he3, g2, g3]
          · simp only [go_sem, he2, he3, g2, g3]
            exact congrArg AEnd.ret hv
        have hapx : Apart (seqC bs bc bk s 47 0) (clS l1 r1 b2 b3 b4 (LP1 .ready none) nilP (eD 0) (.own none 1 0)) := apart_cons_right hl2.1 (apart_cons_right hr2.1 hap)
        refine (splitSeq1_calls (by omega) hB hN s hs (clS l1 r1 b2 b3 b4 (LP1 .ready none) nilP (eD 0) (.own none 1 0)) _ ⟨[], ⟨none, [], GrD.nil _ _, rfl, Nat.zero_le _, rfl⟩, rfl, by simp [lenP]⟩ hapx (sle_cons2 (sle_cons2 (SLe.append_right hap.symm))) (fun b ob hb => ?_)).mono ?_
        · rw [sget_cons, if_neg (fun e => by rw [e, hl2.1] at hb; cases hb), sget_cons, if_neg (fun e => by rw [e, hr2.1] at hb; cases hb)]
          exact sget_append_some hb
        rintro e σ' ⟨τ', hle, hQ⟩
        rcases e with d | d
        rotate_left
        · exact hQ.elim
        rcases hQ with ⟨parts, hgo, hln, o, xs, hgr, htk, hpl, rfl⟩ | ⟨hgo, o, xs, v4, hgr, rfl⟩
        rotate_left
        · refine ⟨.done, some .ret, hle _ _ (hgr.keep cl_l), rfl, ?_⟩
          refine Gs.le (ELe.refl _) (hle.sset (by rw [hgr.keep cl_l]; rfl)) ?_
          rw [hgr.sset (by rw [cl_l]; rfl), cl_sl]
          have hcl : cleanM s = ([], 5) := by unfold cleanM; rw [if_neg hlong, if_neg (by rintro (h | h); exact hh h; exact hall h), hgo]
          exact hfin o xs _ _ _ _ _ _ (cl_grd hgr) rfl rfl (by rw [hcl]; rfl)
        refine ⟨.ready, none, hle _ _ (hgr.keep cl_l), rfl, ?_⟩
        refine Gs.le (ELe.refl _) (hle.sset (by rw [hgr.keep cl_l]; rfl)) ?_
        rw [hgr.sset (by rw [cl_l]; rfl), cl_sl]
        simp only [Option.map_none, Option.toList_none, List.nil_append]
        have hgr5 : ∀ x v2 v3 v4, GrD o 1 xs (clS l1 r1 b2 b3 b4 x v2 v3 v4) := fun x v2 v3 v4 => cl_grd hgr
        have hS2 : ∀ x v2 v3 v4 w, sset b2 (.arr 1 [w]) (cellsOf o 1 xs ++ clS l1 r1 b2 b3 b4 x v2 v3 v4) = cellsOf o 1 xs ++ clS l1 r1 b2 b3 b4 x w v3 v4 := fun x v2 v3 v4 w => by rw [(cl_grd hgr).sset (by rw [cl_2 hCN]; rfl), cl_s2 hCN]
        have hS3 : ∀ x v2 v3 v4 w, sset b3 (.arr 1 [w]) (cellsOf o 1 xs ++ clS l1 r1 b2 b3 b4 x v2 v3 v4) = cellsOf o 1 xs ++ clS l1 r1 b2 b3 b4 x v2 w v4 := fun x v2 v3 v4 w => by rw [(cl_grd hgr).sset (by rw [cl_3 hCN]; rfl), cl_s3 hCN]
        have hG2 : ∀ x v2 v3 v4, sget b2 (cellsOf o 1 xs ++ clS l1 r1 b2 b3 b4 x v2 v3 v4) = some (.arr 1 [v2]) := fun x v2 v3 v4 => (cl_grd hgr).keep (cl_2 hCN)
        have hG3 : ∀ x v2 v3 v4, sget b3 (cellsOf o 1 xs ++ clS l1 r1 b2 b3 b4 x v2 v3 v4) = some (.arr 1 [v3]) := fun x v2 v3 v4 => (cl_grd hgr).keep (cl_3 hCN)
        have hG4 : ∀ x v2 v3 v4, sget b4 (cellsOf o 1 xs ++ clS l1 r1 b2 b3 b4 x v2 v3 v4) = some (.arr 1 [v4]) := fun x v2 v3 v4 => (cl_grd hgr).keep (cl_4 hCN)
        have hjm : (parts.map lB).map (fun x : ByteArray => x.data.toList) = parts := by
          rw [List.map_map]
          exact List.map_id' parts
        have hmm : parts.map pD = (parts.map lB).map sD := by rw [List.map_map]; rfl
        have hv : ∀ sep : D, (∀ b s ys, pubs b s ys [sep] = [sep]) → Views (cellsOf o 1 xs ++ clS l1 r1 b2 b3 b4 (LP1 .exhausted none) nilP (eD 0) (.own o 1 parts.length)) [.own o 1 parts.length, sep] [.slc ((parts.map lB).map sD), sep] := fun sep hsep => by
          have := Views.own1 (rest := [sep]) (hgr5 (LP1 .exhausted none) nilP (eD 0) (.own o 1 parts.length)).oget hpl hsep
          rw [htk, hmm] at this
          exact this
        have hjl := lenP_join parts 47
        have hpl2 := lenP_length parts
        refine Gs.ib ?_
        refine Gs.sq (Gs.rg [2, 3, 4] fun K hK => ?_); simp (maxSteps:=9^7) only [go_sem, hG4]
        refine ⟨_, Tryz.call114, (AC.lend (hv _ (fun _ _ _ => rfl)) rfl (join_calls (parts.map lB) _ [] (by rw [List.length_map]; omega) (by rw [hjm]; exact Nat.le_trans hjl (by omega)))).mono ?_⟩
        rintro e σ1 ⟨rfl, rfl⟩
        simp only [go_sem, hjm]
        refine hK _ _ ?_; clear hK K
        refine Gs.sq ?_
        refine Gs.bk ?_
        refine Gs.sq ?_
        have q6 := lB_eq (Lib.join parts [47]) []
        have q7 := lB_size (Lib.join parts [47])
        unfold lB at q6 q7
        refine Gs.rg [2, 3, 6] fun K hK => ?_; simp (maxSteps:=9^7) only [go_sem, q6]
        refine hK _ _ ?_; clear hK K
        refine Gs.cond rfl (fun h40 => ?_) (fun h40 => ?_)
        · have hj0 : Lib.join parts [47] = [] := by simpa using h40
          refine Gs.sq (Gs.rg [2, 3] fun K hK => ?_); simp (maxSteps:=9^7) only [go_sem, hG2, hG3, hS2, hS3]
          refine hK _ _ ?_; clear hK K
          have hcl : cleanM s = ([], 5) := by unfold cleanM; rw [if_neg hlong, if_neg (by rintro (h | h); exact hh h; exact hall h), hgo]; exact if_pos hj0
          exact hfin o xs _ _ _ _ _ _ (cl_grd hgr) rfl rfl (by rw [hcl]; rfl)
        · have hj0 : ¬ Lib.join parts [47] = [] := by simpa using h40
          refine Gs.sq (Gs.rg [2, 3, 6] fun K hK => ?_); simp (maxSteps:=9^7) only [go_sem, q7]
          refine hK _ _ ?_; clear hK K
          refine Gs.cond rfl (fun h43 => ?_) (fun h43 => ?_)
          · have hj1 : (Lib.join parts [47]).length > 100 := by
              have := h43
              simp at this; omega
            refine Gs.sq (Gs.rg [2, 3] fun K hK => ?_); simp (maxSteps:=9^7) only [go_sem, hG2, hG3, hS2, hS3]
            refine hK _ _ ?_; clear hK K
            have hcl : cleanM s = ([], 3) := by unfold cleanM; rw [if_neg hlong, if_neg (by rintro (h | h); exact hh h; exact hall h), hgo]; exact (if_neg hj0).trans (if_pos hj1)
            exact hfin o xs _ _ _ _ _ _ (cl_grd hgr) rfl rfl (by rw [hcl]; rfl)
          · have hj1 : ¬ (Lib.join parts [47]).length > 100 := by
              have := h43
              simp at this; omega
            refine Gs.sk ?_
            refine Gs.ib ?_
            refine Gs.sq (Gs.rg [2, 3, 6] fun K hK => ?_); simp (maxSteps:=9^7) only [go_sem, hG2, hG3, hS2, hS3]
            refine hK _ _ ?_; clear hK K
            have hcl : cleanM s = (Lib.join parts [47], 0) := by unfold cleanM; rw [if_neg hlong, if_neg (by rintro (h | h); exact hh h; exact hall h), hgo]; exact (if_neg hj0).trans (if_neg hj1)
            exact hfin o xs _ _ _ _ _ _ (cl_grd hgr) rfl rfl (by rw [hcl]; rfl)
def rightM (s : List UInt8) : Bool := decide ((cleanM s).2 = 0) && decide ((cleanM s).1 = s)
theorem right_calls (n : ByteArray) (hs : n.size < 2 ^ 40) (σ : Store) : AC Tryz.prog 113 [.v (.string n)] σ (fun e σ' => e = .ret (.v (.bool (rightM (bL n)))) ∧ σ' = σ) := by
  obtain ⟨s, rfl⟩ : ∃ s, n = lB s := ⟨bL n, (lB_bL n).symm⟩
  rw [bL_lB]
  rw [lB_size] at hs
  refine AC.of_body Tryz.func113 rfl Tryz.ntmps113 (by simp) fun C hC => ?_
  have hq : ((lB (cleanM s).1).toList == (lB s).toList) = decide ((cleanM s).1 = s) := lB_eq _ s
  by_cases h0 : (cleanM s).2 = 0
  · have hr : rightM s = decide ((cleanM s).1 = s) := by unfold rightM; rw [decide_eq_true h0, Bool.true_and]
    have hb : ((cleanM s).2 == 0) = true := by rw [h0]; rfl
    refine Gs.sq (Gs.rg [0] fun K hK => ?_); simp (maxSteps:=9^7) only [go_sem]
    refine hK _ _ ?_; clear hK K
    refine Gs.sq (Gs.rg [0] fun K hK => ?_); simp (maxSteps:=9^7) only [go_sem]
    refine ⟨_, Tryz.call138, (clean_calls s hs _).mono ?_⟩
    rintro e σ1 ⟨rfl, rfl⟩
    simp only [go_sem, eD]
    refine hK _ _ ?_; clear hK K
    refine Gs.sq (Gs.rg [0, 3, 4] fun K hK => ?_); simp (maxSteps:=9^7) only [go_sem, hq, hb]
    refine hK _ _ ?_; clear hK K
    refine Gs.ret hC Tryz.func113 (by simp [go_sem]) ?_
    simp only [go_sem]
    rw [hr]
  · have hr : rightM s = false := by unfold rightM; rw [decide_eq_false h0, Bool.false_and]
    have hb : ((cleanM s).2 == 0) = false := by simpa using h0
    refine Gs.sq (Gs.rg [0] fun K hK => ?_); simp (maxSteps:=9^7) only [go_sem]
    refine hK _ _ ?_; clear hK K
    refine Gs.sq (Gs.rg [0] fun K hK => ?_); simp (maxSteps:=9^7) only [go_sem]
    refine ⟨_, Tryz.call138, (clean_calls s hs _).mono ?_⟩
    rintro e σ1 ⟨rfl, rfl⟩
    simp only [go_sem, eD]
    refine hK _ _ ?_; clear hK K
    refine Gs.sq (Gs.rg [0, 3, 4] fun K hK => ?_); simp (maxSteps:=9^7) only [go_sem, hb]
    refine hK _ _ ?_; clear hK K
    refine Gs.ret hC Tryz.func113 (by simp [go_sem]) ?_
    simp only [go_sem]
    rw [hr]
theorem print1_calls (n : ByteArray) (hs : n.size < 2 ^ 40) (σ : Store) : AC Tryz.prog 112 [.v (.string n)] σ (fun e σ' => e = .ret (.v (.bool (!rightM (bL n)))) ∧ σ' = σ) := by
  refine AC.of_body Tryz.func112 rfl Tryz.ntmps112 (by simp) fun C hC => ?_
  refine Gs.sq (Gs.rg [0] fun K hK => ?_); simp (maxSteps:=9^7) only [go_sem]
  refine hK _ _ ?_; clear hK K
  refine Gs.sq (Gs.rg [0] fun K hK => ?_); simp (maxSteps:=9^7) only [go_sem]
  refine ⟨_, Tryz.call113, (right_calls n hs _).mono ?_⟩
  rintro e σ1 ⟨rfl, rfl⟩
  simp only [go_sem]
  refine hK _ _ ?_; clear hK K
  refine Gs.ret hC Tryz.func112 (by simp [go_sem]) ?_
  simp only [go_sem]
theorem notRight_tests (l : List ByteArray) (h : ∀ f ∈ l, f.size < 2 ^ 40) (σ : Store) : Tests [] 112 (fun f => !rightM (bL f)) l σ := ⟨Tryz.call112, fun f hf => print1_calls f (h f hf) σ⟩
theorem join_printT (out : ByteArray) (ds : List ByteArray) : Lib.join ((bL out ++ [58]) :: ds.map bL) [32] = printT out ds := by
  rw [Lib.join_cons]
  unfold printT Lib.joinTail
  rw [List.map_map, List.flatMap]
  rfl
theorem print_calls (out : ByteArray) (ds : List ByteArray) (σ : Store) (ho : (bL out).length < 2 ^ 20) (hd : ds.length < 2 ^ 20) (hB : ∀ d ∈ ds, (bL d).length ≤ 2 ^ 20) (hR : ∀ d ∈ out :: ds, rightM (bL d) = true) :
    AC Tryz.prog 82 [.v (.string out), .slc (ds.map sD)] σ (fun e σ' => e = .ret (.tup [.v (.string (lB (printT out ds ++ [10]))), eD 0]) ∧ σ' = σ) := by
  refine AC.still ?_ σ
  refine AC.forget (R := fun e _ => e = .ret (.tup [.v (.string (lB (printT out ds ++ [10]))), eD 0])) ?_ fun e σ' h => ⟨[], SLe.nil _, h, rfl⟩
  have hsz : ∀ d ∈ out :: ds, d.size < 2 ^ 40 := fun d hm => by
    have : (bL d).length = d.size := by show d.data.toList.length = _; simp
    rcases List.mem_cons.1 hm with rfl | hm
    · omega
    · have := hB d hm; omega
  have hany : ((out :: ds).any fun f => !rightM (bL f)) = false := by
    rw [List.any_eq_false]
    intro d hm
    rw [hR d hm]; decide
  refine AC.of_body Tryz.func82 rfl Tryz.ntmps82 (by simp) fun C hC => ?_
  refine Gs.sq (Gs.rg [0, 1] fun K hK => ?_); simp (maxSteps:=9^7) only [go_sem]
  refine hK _ _ ?_; clear hK K
  refine Gs.sq (Gs.rg [0, 1] fun K hK => ?_); simp (maxSteps:=9^7) only [go_sem]
  refine ⟨by decide, fun b8 => ⟨⟨fun y hy => plain_sD ds y hy, by rw [List.length_map]; omega, by rw [List.length_map]; omega⟩, fun ob hz hf => ?_⟩⟩
  obtain ⟨b, rfl⟩ : ∃ b, ob = some b := by
    cases ob with
    | none => exact (hz rfl).elim
    | some b => exact ⟨b, rfl⟩
  refine hK _ _ ?_; clear hK K
  have hln : (ds.map sD).length + 1 = ((out :: ds).map sD).length := by simp
  rw [hln]
  change Gs C _ _ [(b, .arr 1 ((out :: ds).map sD))]
  have hll : ((out :: ds).map sD).length = ds.length + 1 := by simp
  have hv : ∀ (l : List ByteArray) (rest : List D), (∀ b s ys, pubs b s ys rest = rest) → l.length = ds.length + 1 → Views [(b, .arr 1 (l.map sD))] (.own (some b) 1 ((out :: ds).map sD).length :: rest) (.slc (l.map sD) :: rest) := fun l rest hr hl => by
    have := Views.own1 (σ := [(b, .arr 1 (l.map sD))]) (ob := some b) (sz := 1) (n := ((out :: ds).map sD).length) (xs := l.map sD) (rest := rest) (by simp [oget]) (by simp; omega) hr
    rw [List.take_of_length_le (by simp; omega)] at this
    exact this
  refine Gs.sq (Gs.sq ?_)
  refine Gs.rg [6] fun K hK => ?_; simp (maxSteps:=9^7) only [go_sem]
  refine ⟨_, Tryz.call34, (AC.lend (hv (out :: ds) _ (fun _ _ _ => rfl) rfl) rfl (containsFunc_str (out :: ds) _ [] _ [] (by simp; omega) (notRight_tests (out :: ds) hsz []))).mono ?_⟩
  rintro e σ1 ⟨rfl, rfl⟩
  simp only [go_sem, hany]
  refine hK _ _ ?_; clear hK K
  refine Gs.condF rfl ?_
  refine Gs.sk ?_
  refine Gs.sq ?_
  have ha0 := fun xo yo => sadd2 xo yo out ⟨#[58]⟩ (by show (bL out).length + 1 < _; omega)
  have hsd : (sD out).cells = [.v (.string out)] := rfl
  refine Gs.rg [6] fun K hK => ?_; simp (maxSteps:=9^7) only [go_sem, hsd, ha0]
  refine ⟨by omega, by omega, by omega, by omega, ?_⟩
  refine hK _ _ ?_; clear hK K
  change Gs C _ _ [(b, .arr 1 ((lB (bL out ++ [58]) :: ds).map sD))]
  have hjm : Lib.join ((lB (bL out ++ [58]) :: ds).map fun x => x.data.toList) (⟨#[32]⟩ : ByteArray).data.toList = printT out ds := join_printT out ds
  have hpl := printT_len out ds (2 ^ 20) hB ds.length (Nat.le_refl _)
  rw [List.take_length] at hpl
  have hpm : ds.length * (2 ^ 20 + 1) ≤ 2 ^ 20 * (2 ^ 20 + 1) := Nat.mul_le_mul_right _ (by omega)
  have ha3 := fun xo yo => sadd2 xo yo (lB (printT out ds)) ⟨#[10]⟩ (by show (printT out ds).length + 1 < _; omega)
  have hjoin := join_calls (lB (bL out ++ [58]) :: ds) ⟨#[32]⟩ [] (by simp; omega) (by rw [hjm]; omega)
  rw [hjm] at hjoin
  change AC _ _ _ _ (fun e σ' => e = .ret (.v (.string (lB (printT out ds)))) ∧ σ' = []) at hjoin
  refine Gs.sq (Gs.rg [6] fun K hK => ?_); simp (maxSteps:=9^7) only [go_sem]
  refine ⟨_, Tryz.call114, (AC.lend (hv (lB (bL out ++ [58]) :: ds) _ (fun _ _ _ => rfl) rfl) rfl hjoin).mono ?_⟩
  rintro e σ1 ⟨rfl, rfl⟩
  simp only [go_sem, ha3]
  refine hK _ _ ?_; clear hK K
  refine Gs.ret hC Tryz.func82 (by simp [go_sem]) ?_
  simp only [go_sem]
  rfl
structure PSt where
  out : List UInt8
  found : List ByteArray
  many : Nat
def inclT (line : List UInt8) : List UInt8 := bL (trimS (lB line) ⟨#[10]⟩)
def inclN (line : List UInt8) : Option (List UInt8) := if Lib.hasPrefix (inclT line) incl then some ((inclT line).drop 9) else none
def addF (found : List ByteArray) (n : ByteArray) : List ByteArray := if (found.any fun s => n.toList == s.toList) then found else found ++ [n]
def putStep (files : List XFile) (rec : List UInt8 → PSt → Option PSt) (line : List UInt8) (st : PSt) : Option PSt :=
  match inclN line with
  | none => if (st.out ++ line).length ≤ 65536 then some ⟨st.out ++ line, st.found, st.many⟩ else none
  | some n => match findF files (lB n) with
    | none => none
    | some own => if rightM n = true ∧ st.many + 1 ≤ 1000 then rec own ⟨st.out, addF st.found (lB n), st.many + 1⟩ else none
def lnGo (f : List UInt8 → PSt → Option PSt) : List UInt8 → List UInt8 → PSt → Option PSt
  | [], cur, st => f cur st
  | c :: r, cur, st => if c = 10 then (f (cur ++ [c]) st).bind (lnGo f r []) else lnGo f r (cur ++ [c]) st
def putsD (files : List XFile) : Nat → List UInt8 → PSt → Option PSt
  | 0, _, _ => none
  | d + 1, b, st => lnGo (putStep files (putsD files d)) b [] st
theorem lnGo_mid {f : List UInt8 → PSt → Option PSt} : ∀ (r cur : List UInt8) (st : PSt) (k : Nat), Lib.indexByte r 10 = (k : Int) → lnGo f r cur st = (f (cur ++ r.take (k + 1)) st).bind (lnGo f (r.drop (k + 1)) [])
  | [], _, _, k, h => by simp [Lib.indexByte] at h
  | c :: r, cur, st, k, h => by
    rw [Lib.indexByte] at h
    rw [lnGo]
    split at h
    · rename_i hc
      have hk : k = 0 := by omega
      subst hk
      rw [if_pos (by simpa using hc)]
      simp
    · rename_i hc
      rw [if_neg (by simpa using hc)]
      split at h
      · omega
      · obtain ⟨j, rfl⟩ : ∃ j, k = j + 1 := ⟨k - 1, by have := Lib.indexByte_ge r 10; rename_i h2; rw [beq_iff_eq] at h2; omega⟩
        rw [lnGo_mid r (cur ++ [c]) st j (by omega)]
        simp
theorem lnGo_last {f : List UInt8 → PSt → Option PSt} : ∀ (r cur : List UInt8) (st : PSt), Lib.indexByte r 10 = -1 → lnGo f r cur st = f (cur ++ r) st
  | [], cur, st, _ => by simp [lnGo]
  | c :: r, cur, st, h => by
    rw [Lib.indexByte] at h
    rw [lnGo]
    split at h
    · omega
    · rename_i hc
      rw [if_neg (by simpa using hc)]
      split at h
      · rename_i h2
        rw [lnGo_last r (cur ++ [c]) st (by simpa using h2)]
        simp
      · have := Lib.indexByte_ge r 10
        omega
structure PSt.Ok (st : PSt) : Prop where
  out : st.out.length ≤ 65536
  found : st.found.length ≤ st.many
  many : st.many ≤ 1000
  right : ∀ n ∈ st.found, rightM (bL n) = true
theorem lnGo_ok {f : List UInt8 → PSt → Option PSt} (hf : ∀ l st st', st.Ok → f l st = some st' → st'.Ok) : ∀ (r cur : List UInt8) (st st' : PSt), st.Ok → lnGo f r cur st = some st' → st'.Ok
  | [], cur, st, st', h, e => hf cur st st' h e
  | c :: r, cur, st, st', h, e => by
    rw [lnGo] at e
    split at e
    · obtain ⟨s1, h1, h2⟩ := Option.bind_eq_some_iff.1 e
      exact lnGo_ok hf r [] s1 st' (hf _ _ _ h h1) h2
    · exact lnGo_ok hf r _ st st' h e
theorem putStep_ok {files : List XFile} {rec : List UInt8 → PSt → Option PSt} (hr : ∀ b st st', st.Ok → rec b st = some st' → st'.Ok) (l : List UInt8) (st st' : PSt) (h : st.Ok) (e : putStep files rec l st = some st') : st'.Ok := by
  unfold putStep at e
  split at e
  · split at e
    · cases e
      exact ⟨by assumption, h.found, h.many, h.right⟩
    · cases e
  · split at e
    · cases e
    · split at e
      · rename_i hc
        refine hr _ ⟨st.out, addF st.found (lB _), st.many + 1⟩ _ ⟨h.out, ?_, hc.2, ?_⟩ e
        · have := h.found
          show (addF st.found (lB _)).length ≤ st.many + 1
          unfold addF
          split
          · omega
          · simp; omega
        · intro n hn
          change n ∈ addF st.found (lB _) at hn
          unfold addF at hn
          split at hn
          · exact h.right n hn
          · rcases List.mem_append.1 hn with hn | hn
            · exact h.right n hn
            · rw [List.mem_singleton.1 hn, bL_lB]; exact hc.1
      · cases e
theorem putsD_ok (files : List XFile) : ∀ (d : Nat) (b : List UInt8) (st st' : PSt), st.Ok → putsD files d b st = some st' → st'.Ok
  | 0, _, _, _, _, e => by cases e
  | d + 1, b, st, st', h, e => lnGo_ok (fun l s s' hs he => putStep_ok (putsD_ok files d) l s s' hs he) b [] st st' h e
def rowsP (oo fo : Option Nat) (st : PSt) (R : Store) : Store := cellsOf oo 1 (st.out.map bD) ++ (cellsOf fo 1 (st.found.map sD) ++ R)
structure GrP (oo fo : Option Nat) (st : PSt) (R : Store) : Prop where
  o : GrD oo 1 (st.out.map bD) (cellsOf fo 1 (st.found.map sD) ++ R)
  f : GrD fo 1 (st.found.map sD) R
theorem grd_base {o : Option Nat} {sz : Nat} {xs : List D} {ρ ρ' : Store} (h : GrD o sz xs ρ) (hd : ∀ b, sget b ρ = none → sget b ρ' = none) : GrD o sz xs ρ' := ⟨fun c hc => hd c (h.fresh c hc), h.zero⟩
theorem GrP.base {oo fo : Option Nat} {st : PSt} {ρ ρ' : Store} (h : GrP oo fo st ρ) (hd : ∀ b, sget b ρ = none → sget b ρ' = none) : GrP oo fo st ρ' := ⟨grd_base h.o fun b hb => by
    rw [sget_append] at hb ⊢
    split at hb
    · cases hb
    · exact hd b hb, grd_base h.f hd⟩
theorem GrP.keep {oo fo : Option Nat} {st : PSt} {R : Store} (h : GrP oo fo st R) {b : Nat} {x : AObj} (hb : sget b R = some x) : sget b (rowsP oo fo st R) = some x := h.o.keep (h.f.keep hb)
theorem GrP.sset {oo fo : Option Nat} {st : PSt} {R : Store} (h : GrP oo fo st R) {b : Nat} (x : AObj) (hb : (sget b R).isSome = true) : Ab.sset b x (rowsP oo fo st R) = rowsP oo fo st (Ab.sset b x R) := by
  unfold rowsP
  have h1 : (sget b (cellsOf fo 1 (st.found.map sD) ++ R)).isSome = true := by
    obtain ⟨y, hy⟩ := Option.isSome_iff_exists.1 hb
    rw [h.f.keep hy]; rfl
  rw [h.o.sset h1, h.f.sset hb]
theorem sset_dom {b c : Nat} {x : AObj} {ρ : Store} (h : sget b ρ = none) : sget b (Ab.sset c x ρ) = none := by
  rw [sget_sset]
  split
  · rename_i e; rw [← e, h]; rfl
  · exact h
theorem sset_dom' {b c : Nat} {x : AObj} {ρ : Store} (h : sget b (Ab.sset c x ρ) = none) : sget b ρ = none := by
  rw [sget_sset] at h
  split at h
  · rename_i e
    rw [e]
    cases hs : sget c ρ with
    | none => rfl
    | some y => rw [hs] at h; cases h
  · exact h
def pR (bc l r b4 b5 b7 : Nat) (x : AObj) (v5 v7 : D) (R : Store) : Store := (l, x) :: (r, .dblk) :: (b7, .arr 1 [v7]) :: (b5, .arr 1 [v5]) :: (b4, .arr 1 [.ptr bc 5 0 0]) :: R
structure PN (l r b4 b5 b7 : Nat) (R : Store) : Prop where
  lr : l ≠ r
  l4 : l ≠ b4
  l5 : l ≠ b5
  l7 : l ≠ b7
  r4 : r ≠ b4
  r5 : r ≠ b5
  r7 : r ≠ b7
  h45 : b4 ≠ b5
  h47 : b4 ≠ b7
  h57 : b5 ≠ b7
  nl : sget l R = none
  nr : sget r R = none
  n4 : sget b4 R = none
  n5 : sget b5 R = none
  n7 : sget b7 R = none
section
variable {bc l r b4 b5 b7 : Nat} {x y : AObj} {v5 v7 w5 w7 : D} {R R' : Store}
theorem PN.base (h : PN l r b4 b5 b7 R) (hd : ∀ b, sget b R = none → sget b R' = none) : PN l r b4 b5 b7 R' := { h with nl := hd _ h.nl, nr := hd _ h.nr, n4 := hd _ h.n4, n5 := hd _ h.n5, n7 := hd _ h.n7 }
theorem pR_l : sget l (pR bc l r b4 b5 b7 x v5 v7 R) = some x := sget_self ..
theorem pR_r (h : PN l r b4 b5 b7 R) : sget r (pR bc l r b4 b5 b7 x v5 v7 R) = some .dblk := by
  unfold pR
  rw [sget_cons, if_neg (Ne.symm h.lr), sget_self]
theorem pR_7 (h : PN l r b4 b5 b7 R) : sget b7 (pR bc l r b4 b5 b7 x v5 v7 R) = some (.arr 1 [v7]) := by
  unfold pR
  rw [sget_cons, if_neg (Ne.symm h.l7), sget_cons, if_neg (Ne.symm h.r7), sget_self]
theorem pR_5 (h : PN l r b4 b5 b7 R) : sget b5 (pR bc l r b4 b5 b7 x v5 v7 R) = some (.arr 1 [v5]) := by
  unfold pR
  rw [sget_cons, if_neg (Ne.symm h.l5), sget_cons, if_neg (Ne.symm h.r5), sget_cons, if_neg h.h57, sget_self]
theorem pR_4 (h : PN l r b4 b5 b7 R) : sget b4 (pR bc l r b4 b5 b7 x v5 v7 R) = some (.arr 1 [.ptr bc 5 0 0]) := by
  unfold pR
  rw [sget_cons, if_neg (Ne.symm h.l4), sget_cons, if_neg (Ne.symm h.r4), sget_cons, if_neg h.h47, sget_cons, if_neg h.h45, sget_self]
theorem pR_sl : sset l y (pR bc l r b4 b5 b7 x v5 v7 R) = pR bc l r b4 b5 b7 y v5 v7 R := by
  unfold pR
  rw [sset_self]
theorem pR_s5 (h : PN l r b4 b5 b7 R) : sset b5 (.arr 1 [w5]) (pR bc l r b4 b5 b7 x v5 v7 R) = pR bc l r b4 b5 b7 x w5 v7 R := by
  unfold pR
  rw [sset_ne (Ne.symm h.l5), sset_ne (Ne.symm h.r5), sset_ne h.h57, sset_self]
theorem pR_in (h : PN l r b4 b5 b7 R) {b : Nat} {o : AObj} (hb : sget b R = some o) : sget b (pR bc l r b4 b5 b7 x v5 v7 R) = some o := by
  have hn : ∀ {c : Nat}, sget c R = none → b ≠ c := fun {c} hc e => by rw [e, hc] at hb; cases hb
  unfold pR
  rw [sget_cons, if_neg (hn h.nl), sget_cons, if_neg (hn h.nr), sget_cons, if_neg (hn h.n7), sget_cons, if_neg (hn h.n5), sget_cons, if_neg (hn h.n4), hb]
theorem pR_sb (h : PN l r b4 b5 b7 R) {b : Nat} {o : AObj} (hb : (sget b R).isSome = true) : sset b o (pR bc l r b4 b5 b7 x v5 v7 R) = pR bc l r b4 b5 b7 x v5 v7 (sset b o R) := by
  have hn : ∀ {c : Nat}, sget c R = none → b ≠ c := fun {c} hc e => by rw [e, hc] at hb; cases hb
  unfold pR
  rw [sset_ne (hn h.nl), sset_ne (hn h.nr), sset_ne (hn h.n7), sset_ne (hn h.n5), sset_ne (hn h.n4)]
theorem pR_dom {b : Nat} (hd : sget b R = none → sget b R' = none) (h : sget b (pR bc l r b4 b5 b7 x v5 v7 R) = none) : sget b (pR bc l r b4 b5 b7 y w5 w7 R') = none := by
  unfold pR at *
  simp only [sget_cons] at *
  repeat' split at h
  all_goals first | cases h | skip
  simp_all
end
def KeepX (bc : Nat) (R τ : Store) : Prop := ∀ b o, b ≠ bc → sget b R = some o → sget b τ = some o
theorem KeepX.trans_sle {bc : Nat} {R τ σ : Store} (h : KeepX bc R τ) (hs : SLe τ σ) : KeepX bc R σ := fun b o hb hr => hs b o (h b o hb hr)
theorem KeepX.pR {bc l r b4 b5 b7 : Nat} {x : AObj} {v5 v7 : D} {R τ : Store} (hN : PN l r b4 b5 b7 R) (h : KeepX bc (pR bc l r b4 b5 b7 x v5 v7 R) τ) : KeepX bc R τ := fun b o hb hr => h b o hb (pR_in hN hr)
end Go.Ab.S16
namespace Go.Ab.S16
open Go Go.Proofs Go.RowKit
theorem own_ne {o : Option Nat} {sz : Nat} {xs : List D} {τ : Store} {b : Nat} (h : SLe (cellsOf o sz xs) τ) (hb : sget b τ = none) : o ≠ some b := fun e => by
  subst e
  have := h b (.arr sz xs) (sget_self ..)
  rw [hb] at this; cases this
theorem oget_cons {o : Option Nat} {sz : Nat} {b : Nat} {x : AObj} {σ : Store} (hn : o ≠ some b) : oget sz o ((b, x) :: σ) = oget sz o σ := by
  cases o with
  | none => rfl
  | some c =>
    have : c ≠ b := fun e => hn (by rw [e])
    simp only [oget, sget_cons, if_neg this]
theorem sle_push {τ σ : Store} {b : Nat} {x : AObj} (h : SLe τ σ) (hb : sget b σ = none) : SLe τ ((b, x) :: σ) := fun c o hc => by
  have := h c o hc
  rw [sget_cons, if_neg (fun e => by rw [e, hb] at this; cases this)]
  exact this
theorem bytes_bD (b : List UInt8) : bytesOf ((b.map bD).take b.length) = lB b := by
  rw [List.take_of_length_le (by simp)]
  unfold bytesOf lB
  congr 2
  rw [List.map_map]
  have : ∀ c : UInt8, (byteOf ∘ bD) c = c := fun c => by simp [byteOf, bD]
  rw [List.map_congr_left (fun c _ => this c)]
  simp
theorem all_bD (b : List UInt8) : (b.map bD).all isByte = true := by
  rw [List.all_eq_true]
  intro x hx
  obtain ⟨c, _, rfl⟩ := List.mem_map.1 hx
  simp only [bD, isByte, decide_eq_true_eq]
  have := UInt8.toNat_lt c
  omega
theorem sset_sset (b : Nat) (x y : AObj) : ∀ σ : Store, sset b x (sset b y σ) = sset b x σ
  | [] => rfl
  | (c, o) :: σ => by
    by_cases h : b = c
    · subst h; rw [sset_self, sset_self, sset_self]
    · rw [sset_ne h, sset_ne h, sset_ne h, sset_sset b x y σ]
theorem app_dom {c : Nat} {A B B' : Store} (h : sget c (A ++ B) = none) (hd : sget c B = none → sget c B' = none) : sget c (A ++ B') = none := by
  rw [sget_append] at h ⊢
  split at h
  · cases h
  · exact hd h
theorem rows_dom {oo fo : Option Nat} {st : PSt} {A B : Store} {c : Nat} (h : sget c (rowsP oo fo st A) = none) (hd : sget c A = none → sget c B = none) : sget c (rowsP oo fo st B) = none := app_dom h fun h2 => app_dom h2 hd
theorem oget_app {o : Option Nat} {sz : Nat} {A B : Store} (h : ∀ c, o = some c → sget c A = none) : oget sz o (A ++ B) = oget sz o B := by
  cases o with
  | none => rfl
  | some c => simp only [oget, sget_append_none (h c rfl)]
theorem sdel_app {c : Nat} : ∀ {A B : Store}, sget c A = none → sdel c (A ++ B) = A ++ sdel c B
  | [], _, _ => rfl
  | (k, o) :: A, B, h => by
    rw [sget_cons] at h
    split at h
    · cases h
    · rename_i e
      rw [List.cons_append, sdel_ne e, sdel_app h]; rfl
theorem sdelo_app {o : Option Nat} {A B : Store} (h : ∀ c, o = some c → sget c A = none) : sdelo o (A ++ B) = A ++ sdelo o B := by
  cases o with
  | none => rfl
  | some c => exact sdel_app (h c rfl)
theorem cells_none {o o2 : Option Nat} {sz sb : Nat} {xs ys : List D} {ρ : Store} (h : GrD o2 sb ys (cellsOf o sz xs ++ ρ)) : ∀ c, o = some c → sget c (cellsOf o2 sb ys) = none := fun c hc => by
  subst hc
  cases o2 with
  | none => rfl
  | some k =>
    have hk := h.fresh k rfl
    change sget k ((c, _) :: ρ) = none at hk
    have : c ≠ k := fun e => by rw [e, sget_self] at hk; cases hk
    show sget c [(k, _)] = none
    rw [sget_cons, if_neg this]; rfl
theorem rows_sle {oo fo : Option Nat} {st : PSt} {A B : Store} (hg : GrP oo fo st B) (h : SLe A B) : SLe (rowsP oo fo st A) (rowsP oo fo st B) :=
  SLe.append (SLe.append_left _ _) ((SLe.append (SLe.append_left _ _) (h.trans hg.f.sle)).trans hg.o.sle)
theorem rows_none {oo fo : Option Nat} {st : PSt} {A B : Store} {c : Nat} (hg : GrP oo fo st B) (hb : (sget c B).isSome = true) (ha : sget c A = none) : sget c (rowsP oo fo st A) = none := by
  obtain ⟨x, hx⟩ := Option.isSome_iff_exists.1 hb
  have h1 : ∀ {o : Option Nat} {xs : List D}, (∀ k, o = some k → c ≠ k) → sget c (cellsOf o 1 xs) = none := fun {o xs} h => by
    cases o with
    | none => rfl
    | some k =>
      show sget c [(k, _)] = none
      rw [sget_cons, if_neg (h k rfl)]; rfl
  have h2 := h1 (o := oo) (xs := st.out.map bD) fun k hk e => by
    have := hg.o.fresh k hk
    rw [← e, hg.f.keep hx] at this; cases this
  have h3 := h1 (o := fo) (xs := st.found.map sD) fun k hk e => by
    have := hg.f.fresh k hk
    rw [← e, hx] at this; cases this
  unfold rowsP
  rw [sget_append_none h2, sget_append_none h3, ha]
section
variable (args decl : List ByteArray) (files : List XFile) (bc : Nat)
def ckS (R0 : Store) (st : PSt) (fo : Option Nat) : Store := sset bc (ckR args decl files (.own fo 1 st.found.length) (st.many : Int)) R0
def PutsC (lv : Nat) : Prop := ∀ (oo fo ob : Option Nat) (b : List UInt8) (st : PSt) (R0 : Store), st.Ok → (sget bc R0).isSome = true → GrP oo fo st R0 → GrD ob 1 (b.map bD) (rowsP oo fo st (ckS args decl files bc R0 st fo)) → b.length < 2 ^ 40 →
  AC Tryz.prog 137 [.ptr bc 5 0 0, .own oo 1 st.out.length, .own ob 1 b.length, .v (.int .i64 (11 - (lv : Int)))] (cellsOf ob 1 (b.map bD) ++ rowsP oo fo st (ckS args decl files bc R0 st fo)) (fun e σ' => match putsD files lv b st with
    | some s' => ∃ oo' fo', GrP oo' fo' s' R0 ∧ e = .ret (.own oo' 1 s'.out.length) ∧ σ' = rowsP oo' fo' s' (ckS args decl files bc R0 s' fo')
    | none => e = .panic failD ∧ KeepX bc R0 σ')
theorem GrP.toP {oo fo : Option Nat} {st : PSt} {R : Store} {l r b4 b5 b7 : Nat} {x : AObj} {v5 v7 : D} (h : GrP oo fo st R) (ho : ∀ c ∈ [l, r, b4, b5, b7], oo ≠ some c ∧ fo ≠ some c) : GrP oo fo st (pR bc l r b4 b5 b7 x v5 v7 R) := by
  have hne : ∀ {o : Option Nat} {c : Nat}, o = some c → (∀ k ∈ [l, r, b4, b5, b7], o ≠ some k) → c ≠ l ∧ c ≠ r ∧ c ≠ b4 ∧ c ≠ b5 ∧ c ≠ b7 := fun {o c} hc hk => ⟨fun e => hk l (by simp) (by rw [hc, e]), fun e => hk r (by simp) (by rw [hc, e]), fun e => hk b4 (by simp) (by rw [hc, e]), fun e => hk b5 (by simp) (by rw [hc, e]), fun e => hk b7 (by simp) (by rw [hc, e])⟩
  have hp : ∀ {c : Nat}, (c ≠ l ∧ c ≠ r ∧ c ≠ b4 ∧ c ≠ b5 ∧ c ≠ b7) → sget c (pR bc l r b4 b5 b7 x v5 v7 R) = sget c R := fun {c} ⟨h1, h2, h3, h4, h5⟩ => by
    unfold pR
    rw [sget_cons, if_neg h1, sget_cons, if_neg h2, sget_cons, if_neg h5, sget_cons, if_neg h4, sget_cons, if_neg h3]
  refine ⟨⟨fun c hc => ?_, h.o.zero⟩, ⟨fun c hc => ?_, h.f.zero⟩⟩
  · have h1 := h.o.fresh c hc
    rw [sget_append] at h1 ⊢
    split at h1
    · cases h1
    · rw [hp (hne hc fun k hk => (ho k hk).1)]; exact h1
  · rw [hp (hne hc fun k hk => (ho k hk).2)]; exact h.f.fresh c hc
theorem keepX_rows {oo fo : Option Nat} {st : PSt} {R0 : Store} {x : AObj} (h : GrP oo fo st R0) : KeepX bc R0 (rowsP oo fo st (sset bc x R0)) := fun b o hb hr => by
  refine (h.base (ρ' := sset bc x R0) fun b hb => sset_dom hb).keep ?_
  rw [sget_sset, if_neg hb]; exact hr
theorem puts_zero : PutsC args decl files bc 0 := by
  intro oo fo ob b st R0 hst hbc hg hgb hbl
  refine AC.of_body Tryz.func137 rfl Tryz.ntmps137 (by simp) fun C hC => ?_
  refine Gs.sq (Gs.rg [0, 1, 2, 3] fun K hK => ?_); simp (maxSteps:=9^7) only [go_sem]
  intro b4 hb4 b5 hb5 b7 hb7
  refine hK _ _ ?_; clear hK K
  refine Gs.sq (Gs.rg [2, 4, 5, 7, 8] fun K hK => ?_); simp (maxSteps:=9^7) only [go_sem]
  refine ⟨_, Tryz.call81, (need_calls false _).mono ?_⟩
  rintro e σ1 ⟨rfl, rfl⟩
  simp only [go_sem]
  exact Pan.of hC Tryz.func137 ⟨rfl, (keepX_rows bc hg).trans_sle (sle_push (sle_push (sle_push hgb.sle hb4) hb5) hb7)⟩
theorem puts_succ (hfl : files.length < 2 ^ 31) (hfb : ∀ f ∈ files, f.b.length < 2 ^ 40) (d : Nat) (hd : d ≤ 10) (hrec : PutsC args decl files bc d) : PutsC args decl files bc (d + 1) := by
  intro oo fo ob b st R0 hst hbc hg hgb hbl
  refine AC.of_body Tryz.func137 rfl Tryz.ntmps137 (by simp) fun C hC => ?_
  have hdp : decide ((11 - ((d + 1 : Nat) : Int)) ≤ 10) = true := decide_eq_true (by omega)
  refine Gs.sq (Gs.rg [0, 1, 2, 3] fun K hK => ?_); simp (maxSteps:=9^7) only [go_sem]
  intro b4 hb4 b5 hb5 b7 hb7
  refine hK _ _ ?_; clear hK K
  refine Gs.sq (Gs.rg [2, 4, 5, 7, 8] fun K hK => ?_); simp (maxSteps:=9^7) only [go_sem, hdp]
  refine ⟨_, Tryz.call81, (need_calls true _).mono ?_⟩
  rintro e σ1 ⟨rfl, rfl⟩
  simp only [go_sem]
  refine hK _ _ ?_; clear hK K
  refine Gs.sq (Gs.sq ?_)
  have hs0 : SLe (cellsOf ob 1 (b.map bD)) (cellsOf ob 1 (b.map bD) ++ rowsP oo fo st (ckS args decl files bc R0 st fo)) := SLe.append_left _ _
  have hob4 : ob ≠ some b4 := own_ne hs0 hb4
  have hob5 : ob ≠ some b5 := own_ne (sle_push hs0 hb4) hb5
  have hob7 : ob ≠ some b7 := own_ne (sle_push (sle_push hs0 hb4) hb5) hb7
  have hob := (oget_cons (sz := 1) (x := .arr 1 [.v (.int .i64 (11 - ((d + 1 : Nat) : Int)))]) hob7).trans ((oget_cons (x := .arr 1 [.own oo 1 st.out.length]) hob5).trans ((oget_cons (x := .arr 1 [.ptr bc 5 0 0]) hob4).trans hgb.oget))
  have hbt := bytes_bD b
  have hba := all_bD b
  have hbn : b.length ≤ (b.map bD).length := by simp
  refine Gs.rg [2, 4, 5, 7, 8] fun K hK => ?_; simp (maxSteps:=9^7) only [go_sem, hob, hbt, hba]
  refine ⟨hbn, ?_⟩
  refine ⟨_, Tryz.call163, (splitA_calls b 10 _).mono ?_⟩
  rintro e σ1 ⟨bs, bd, bk, hN, hap, rfl, rfl⟩
  simp only [go_sem]
  refine hK _ _ ?_; clear hK K
  refine Gs.bk ?_
  refine Gs.rebase [4, 5, 7, 8, 19] ?_
  simp only [go_sem]
  refine Gs.rangeFuncL hC.toM rfl Tryz.call208 fun l1 r1 C1 LP1 hLP1 hr1 hl1 hC1 => ?_
  have hlr : l1 ≠ r1 := by
    intro e; rw [e, sget_self] at hl1; cases hl1
  rw [sget_cons, if_neg hlr] at hl1
  have happ : ∀ {c : Nat} {A B : Store}, sget c (A ++ B) = none → sget c A = none ∧ sget c B = none := fun {c A B} h => by
    rw [sget_append] at h
    split at h
    · cases h
    · exact ⟨by assumption, h⟩
  have hne : ∀ {b c : Nat} {x : AObj} {τ : Store}, sget b ((c, x) :: τ) = none → b ≠ c ∧ sget b τ = none := fun {b c x τ} h => by
    rw [sget_cons] at h
    split at h
    · cases h
    · rename_i e; exact ⟨e, h⟩
  have hr2 := happ hr1
  have hl2 := happ hl1
  have hgP : GrP oo fo st (ckS args decl files bc R0 st fo) := hg.base fun b hb => sset_dom hb
  have hsX : SLe (ckS args decl files bc R0 st fo) (rowsP oo fo st (ckS args decl files bc R0 st fo)) := fun c o hc => hgP.keep hc
  have hsR : ∀ {c : Nat}, sget c (cellsOf ob 1 (b.map bD) ++ rowsP oo fo st (ckS args decl files bc R0 st fo)) = none → sget c R0 = none ∧ oo ≠ some c ∧ fo ≠ some c := fun {c} h => by
    have h2 := (happ h).2
    refine ⟨sset_dom' (none_of_sle hsX h2), own_ne (SLe.append_left _ _) h2, own_ne (SLe.append_left _ _) (happ h2).2⟩
  have hP : PN l1 r1 b4 b5 b7 R0 := ⟨hlr, (hne (hne (hne hl2.2).2).2).1, (hne (hne hl2.2).2).1, (hne hl2.2).1, (hne (hne (hne hr2.2).2).2).1, (hne (hne hr2.2).2).1, (hne hr2.2).1, Ne.symm (hne hb5).1, Ne.symm (hne (hne hb7).2).1, Ne.symm (hne hb7).1, (hsR (hne (hne (hne hl2.2).2).2).2).1, (hsR (hne (hne (hne hr2.2).2).2).2).1, (hsR hb4).1, (hsR (hne hb5).2).1, (hsR (hne (hne hb7).2).2).1⟩
  have hgPB : GrP oo fo st (pR bc l1 r1 b4 b5 b7 .dblk .any .any R0) := hg.toP bc fun c hc => by
    simp only [List.mem_cons, List.not_mem_nil, or_false] at hc
    rcases hc with rfl | rfl | rfl | rfl | rfl
    · exact (hsR (hne (hne (hne hl2.2).2).2).2).2
    · exact (hsR (hne (hne (hne hr2.2).2).2).2).2
    · exact (hsR hb4).2
    · exact (hsR (hne hb5).2).2
    · exact (hsR (hne (hne hb7).2).2).2
  obtain ⟨RS, hRS⟩ : ∃ RS : Option Nat → Option Nat → PSt → AObj → Store, ∀ oo fo st x, RS oo fo st x = rowsP oo fo st (pR bc l1 r1 b4 b5 b7 x (.own oo 1 st.out.length) (.v (.int .i64 (11 - ((d + 1 : Nat) : Int)))) (ckS args decl files bc R0 st fo)) := ⟨_, fun _ _ _ _ => rfl⟩
  have hround : ∀ (line : List UInt8) (st : PSt) (oo fo : Option Nat), st.Ok → GrP oo fo st (pR bc l1 r1 b4 b5 b7 .dblk .any .any R0) → line.length < 2 ^ 40 → AYields Tryz.prog l1 [.v (.string (lB line))] (RS oo fo st (LP1 .ready none)) (fun e τ' => match putStep files (putsD files d) line st with
      | some s' => e = .ret (.v (.bool true)) ∧ ∃ oo' fo', GrP oo' fo' s' (pR bc l1 r1 b4 b5 b7 .dblk .any .any R0) ∧ τ' = RS oo' fo' s' (LP1 .ready none)
      | none => e = .panic failD ∧ KeepX bc R0 τ' ∧ sget r1 τ' = some .dblk) := by
    intro line st oo fo hst hgr hll
    rw [hRS]
    have hgb : ∀ {x y : AObj} {v5 v7 : D}, GrP oo fo st (pR bc l1 r1 b4 b5 b7 x v5 v7 (sset bc y R0)) := fun {x y v5 v7} => hgr.base fun b hb => pR_dom (fun h => sset_dom h) hb
    have hP1 : ∀ {y : AObj}, PN l1 r1 b4 b5 b7 (sset bc y R0) := fun {y} => hP.base fun b hb => sset_dom hb
    have hbc1 : ∀ {y : AObj}, sget bc (sset bc y R0) = some y := fun {y} => by
      rw [sget_sset, if_pos rfl]
      obtain ⟨z, hz⟩ := Option.isSome_iff_exists.1 hbc
      rw [hz]; rfl
    unfold ckS
    refine AYields.of_bodyL hLP1 Tryz.func137 (hgb.keep pR_l) (by decide) rfl fun C2 hR1 => ?_
    simp only [go_sem, parEnv]
    have hsb : ∀ {y : AObj} {v5 v7 : D} (x x' : AObj), sset l1 x' (rowsP oo fo st (pR bc l1 r1 b4 b5 b7 x v5 v7 (sset bc y R0))) = rowsP oo fo st (pR bc l1 r1 b4 b5 b7 x' v5 v7 (sset bc y R0)) := fun {y v5 v7} x x' => by
      rw [hgb.sset _ (by rw [pR_l]; rfl), pR_sl]
    have g5 : ∀ {x y : AObj} {v5 v7 : D}, sget b5 (rowsP oo fo st (pR bc l1 r1 b4 b5 b7 x v5 v7 (sset bc y R0))) = some (.arr 1 [v5]) := hgb.keep (pR_5 hP1)
    have g4 : ∀ {x y : AObj} {v5 v7 : D}, sget b4 (rowsP oo fo st (pR bc l1 r1 b4 b5 b7 x v5 v7 (sset bc y R0))) = some (.arr 1 [.ptr bc 5 0 0]) := hgb.keep (pR_4 hP1)
    have gB : ∀ {x y : AObj} {v5 v7 : D}, sget bc (rowsP oo fo st (pR bc l1 r1 b4 b5 b7 x v5 v7 (sset bc y R0))) = some y := hgb.keep (pR_in hP1 hbc1)
    have sB : ∀ {x y z : AObj} {v5 v7 : D}, sset bc z (rowsP oo fo st (pR bc l1 r1 b4 b5 b7 x v5 v7 (sset bc y R0))) = rowsP oo fo st (pR bc l1 r1 b4 b5 b7 x v5 v7 (sset bc z R0)) := fun {x y z v5 v7} => by
      rw [hgb.sset _ (by rw [pR_in hP1 hbc1]; rfl), pR_sb hP1 (by rw [hbc1]; rfl), sset_sset]
    have g7 : ∀ {x y : AObj} {v5 v7 : D}, sget b7 (rowsP oo fo st (pR bc l1 r1 b4 b5 b7 x v5 v7 (sset bc y R0))) = some (.arr 1 [v7]) := hgb.keep (pR_7 hP1)
    have ho : ∀ {x y : AObj} {v5 v7 : D}, oget 1 oo (rowsP oo fo st (pR bc l1 r1 b4 b5 b7 x v5 v7 (sset bc y R0))) = some (st.out.map bD) := fun {x y v5 v7} => (hgb (x := x) (y := y) (v5 := v5) (v7 := v7)).o.oget
    have hdl : ∀ {x y : AObj} {v5 v7 : D}, sdelo oo (rowsP oo fo st (pR bc l1 r1 b4 b5 b7 x v5 v7 (sset bc y R0))) = cellsOf fo 1 (st.found.map sD) ++ pR bc l1 r1 b4 b5 b7 x v5 v7 (sset bc y R0) := fun {x y v5 v7} => (hgb (x := x) (y := y) (v5 := v5) (v7 := v7)).o.sdel
    have htk : List.take st.out.length (st.out.map bD) = st.out.map bD := List.take_of_length_le (by simp)
    have hkx : ∀ {x y : AObj} {v5 v7 : D}, KeepX bc R0 (rowsP oo fo st (pR bc l1 r1 b4 b5 b7 x v5 v7 (sset bc y R0))) := fun {x y v5 v7} b o hb hr => hgb.keep (pR_in hP1 (by rw [sget_sset, if_neg hb]; exact hr))
    have hkr : ∀ {x y : AObj} {v5 v7 : D}, sget r1 (rowsP oo fo st (pR bc l1 r1 b4 b5 b7 x v5 v7 (sset bc y R0))) = some .dblk := hgb.keep (pR_r hP1)
    have ht : (trimS (lB line) ⟨#[10]⟩).size < 2 ^ 40 := by
      have : (lB line).size = line.length := lB_size line
      unfold trimS
      split
      · rw [ByteArray.size_extract]; omega
      · omega
    have hpp : Lib.hasPrefix (trimS (lB line) ⟨#[10]⟩).data.toList (⟨#[35, 105, 110, 99, 108, 117, 100, 101, 32]⟩ : ByteArray).data.toList = Lib.hasPrefix (inclT line) incl := rfl
    refine Gs.rg [4, 5, 7, 8, 20] fun K hK => ?_; simp (maxSteps:=9^7) only [go_sem]
    refine hK _ _ ?_; clear hK K
    refine Gs.beginRoundL hR1 hLP1 (hgb.keep pR_l) ?_
    simp only [go_sem, hsb]
    refine Gs.bk ?_
    refine Gs.sq ?_
    cases hin : Lib.hasPrefix (inclT line) incl
    · refine Gs.rg [4, 5, 7, 8, 9] fun K hK => ?_; simp (maxSteps:=9^7) only [go_sem]
      refine ⟨_, Tryz.call51, (trim_calls (lB line) ⟨#[10]⟩ _ (by rw [lB_size]; omega) (by decide)).mono ?_⟩
      rintro e σ1 ⟨rfl, rfl⟩
      simp only [go_sem]
      refine ⟨_, Tryz.call164, (cutPrefix_calls (trimS (lB line) ⟨#[10]⟩) ⟨#[35, 105, 110, 99, 108, 117, 100, 101, 32]⟩ _).mono ?_⟩
      rintro e σ1 ⟨rfl, rfl⟩
      simp only [go_sem, hpp, hin]
      refine hK _ _ ?_; clear hK K
      refine Gs.sq (Gs.sq ?_)
      refine Gs.rg [4, 5, 7, 8, 9, 10, 11] fun K hK => ?_; simp (maxSteps:=9^7) only [go_sem]
      refine hK _ _ ?_; clear hK K
      refine Gs.condT rfl ?_
      refine Gs.sq ?_
      have hinc : inclN line = none := by unfold inclN; rw [hin]; rfl
      have hdat : (lB line).data.toList = line := rfl
      refine Gs.rg [5, 8, 9] fun K hK => ?_; simp (maxSteps:=9^7) only [go_sem, g5, ho, hdl, htk, hdat]
      refine ⟨⟨by simp, fun y hy => plain_bD line y hy, by simp only [List.length_map]; have := hst.out; omega, by simp only [List.length_map]; have := hst.out; omega⟩, fun ob2 hz hf => ?_⟩
      simp only [← List.map_append] at hz ⊢
      have hgr2 : GrP ob2 fo ⟨st.out ++ line, st.found, st.many⟩ (pR bc l1 r1 b4 b5 b7 .dblk .any .any R0) := ⟨⟨fun c hc => app_dom (hf c hc) fun h => pR_dom (fun h => sset_dom' h) h, hz⟩, hgr.f⟩
      have hgb2 : ∀ {x y : AObj} {v5 v7 : D}, GrP ob2 fo ⟨st.out ++ line, st.found, st.many⟩ (pR bc l1 r1 b4 b5 b7 x v5 v7 (sset bc y R0)) := fun {x y v5 v7} => hgr2.base fun b hb => pR_dom (fun h => sset_dom h) hb
      have g5b : ∀ {x y : AObj} {v5 v7 : D}, sget b5 (cellsOf ob2 1 ((st.out ++ line).map bD) ++ (cellsOf fo 1 (st.found.map sD) ++ pR bc l1 r1 b4 b5 b7 x v5 v7 (sset bc y R0))) = some (.arr 1 [v5]) := hgb2.keep (pR_5 hP1)
      have s5b : ∀ {x y : AObj} {v5 v7 w : D}, sset b5 (.arr 1 [w]) (cellsOf ob2 1 ((st.out ++ line).map bD) ++ (cellsOf fo 1 (st.found.map sD) ++ pR bc l1 r1 b4 b5 b7 x v5 v7 (sset bc y R0))) = rowsP ob2 fo ⟨st.out ++ line, st.found, st.many⟩ (pR bc l1 r1 b4 b5 b7 x w v7 (sset bc y R0)) := fun {x y v5 v7 w} => by
        have := hgb2.sset (R := pR bc l1 r1 b4 b5 b7 x v5 v7 (sset bc y R0)) (b := b5) (.arr 1 [w]) (by rw [pR_5 hP1]; rfl)
        rw [pR_s5 hP1] at this
        exact this
      have hlm : ((st.out ++ line).map bD).length = (st.out ++ line).length := List.length_map ..
      simp only [go_sem, g5b, s5b, hlm]
      refine hK _ _ ?_; clear hK K
      have g5c : ∀ {x y : AObj} {v5 v7 : D}, sget b5 (rowsP ob2 fo ⟨st.out ++ line, st.found, st.many⟩ (pR bc l1 r1 b4 b5 b7 x v5 v7 (sset bc y R0))) = some (.arr 1 [v5]) := hgb2.keep (pR_5 hP1)
      refine Gs.sq ?_
      by_cases hle : (st.out ++ line).length ≤ 65536
      · have hdc : decide (((st.out ++ line).length : Int) ≤ 65536) = true := decide_eq_true (by omega)
        refine Gs.rg [5, 8] fun K hK => ?_; simp (maxSteps:=9^7) only [go_sem, g5c, hdc]
        refine ⟨_, Tryz.call81, (need_calls true _).mono ?_⟩
        rintro e σ1 ⟨rfl, rfl⟩
        simp only [go_sem]
        refine hK _ _ ?_; clear hK K
        refine Gs.exit rfl ?_
        refine Gs.roundDoneL hR1 hLP1 (hgb2.keep pR_l) ?_
        have hps : putStep files (putsD files d) line st = some ⟨st.out ++ line, st.found, st.many⟩ := by unfold putStep; rw [hinc]; exact if_pos hle
        rw [hps]
        refine ⟨rfl, ob2, fo, hgr2, ?_⟩
        rw [hgb2.sset _ (by rw [pR_l]; rfl), pR_sl, hRS]
        rfl
      · have hdc : decide (((st.out ++ line).length : Int) ≤ 65536) = false := decide_eq_false (by omega)
        refine Gs.rg [5, 8] fun K hK => ?_; simp (maxSteps:=9^7) only [go_sem, g5c, hdc]
        refine ⟨_, Tryz.call81, (need_calls false _).mono ?_⟩
        rintro e σ1 ⟨rfl, rfl⟩
        simp only [go_sem]
        have hps : putStep files (putsD files d) line st = none := by unfold putStep; rw [hinc]; exact if_neg hle
        refine Pan.ofRound hR1 ?_
        rw [hps]
        exact ⟨rfl, fun b o hb hr => hgb2.keep (pR_in hP1 (by rw [sget_sset, if_neg hb]; exact hr)), hgb2.keep (pR_r hP1)⟩
    · have hname : (⟨(Lib.trimPrefix (trimS (lB line) ⟨#[10]⟩).data.toList [35, 105, 110, 99, 108, 117, 100, 101, 32]).toArray⟩ : ByteArray) = lB ((inclT line).drop 9) := by
        have : Lib.trimPrefix (inclT line) incl = (inclT line).drop 9 := by unfold Lib.trimPrefix; rw [if_pos hin]; rfl
        exact congrArg lB this
      have hinc : inclN line = some ((inclT line).drop 9) := by unfold inclN; rw [hin]; rfl
      obtain ⟨n, hn⟩ : ∃ n, (inclT line).drop 9 = n := ⟨_, rfl⟩
      rw [hn] at hname hinc
      have hnl : (lB n).size < 2 ^ 40 := by
        rw [lB_size, ← hn, List.length_drop]
        have : (inclT line).length = (trimS (lB line) ⟨#[10]⟩).size := by unfold inclT bL; simp
        omega
      have hwm : IntKind.i64.wrap ((st.many : Int) + 1) = ((st.many + 1 : Nat) : Int) := wrap_succ _ (by have := hst.many; omega)
      have hbn' : bL (lB n) = n := rfl
      have key : findF files (lB n) = none ∨ (∃ own, findF files (lB n) = some own ∧ rightM n = false) ∨ (∃ own, findF files (lB n) = some own ∧ rightM n = true ∧ ¬ st.many + 1 ≤ 1000) ∨ (∃ own, findF files (lB n) = some own ∧ rightM n = true ∧ st.many + 1 ≤ 1000) := by
        cases hf : findF files (lB n) with
        | none => exact .inl rfl
        | some own =>
          cases hr : rightM n with
          | false => exact .inr (.inl ⟨own, rfl, rfl⟩)
          | true =>
            by_cases hm : st.many + 1 ≤ 1000
            · exact .inr (.inr (.inr ⟨own, rfl, rfl, hm⟩))
            · exact .inr (.inr (.inl ⟨own, rfl, rfl, hm⟩))
      have hfind := fun σ => findO_calls files (lB n) σ hfl hfb
      refine Gs.rg [4, 5, 7, 8, 9] fun K hK => ?_; simp (maxSteps:=9^7) only [go_sem]
      refine ⟨_, Tryz.call51, (trim_calls (lB line) ⟨#[10]⟩ _ (by rw [lB_size]; omega) (by decide)).mono ?_⟩
      rintro e σ1 ⟨rfl, rfl⟩
      simp only [go_sem]
      refine ⟨_, Tryz.call164, (cutPrefix_calls (trimS (lB line) ⟨#[10]⟩) ⟨#[35, 105, 110, 99, 108, 117, 100, 101, 32]⟩ _).mono ?_⟩
      rintro e σ1 ⟨rfl, rfl⟩
      simp only [go_sem, hpp, hin, hname]
      refine hK _ _ ?_; clear hK K
      refine Gs.sq (Gs.sq ?_)
      refine Gs.rg [4, 5, 7, 8, 9, 10, 11] fun K hK => ?_; simp (maxSteps:=9^7) only [go_sem]
      refine hK _ _ ?_; clear hK K
      refine Gs.condF rfl ?_
      refine Gs.sk ?_
      refine Gs.sq ?_
      rcases key with hf | ⟨own, hf, hr⟩ | ⟨own, hf, hr, hm⟩ | ⟨own, hf, hr, hm⟩
      · rw [hf] at hfind
        refine Gs.rg [4, 5, 7, 8, 10] fun K hK => ?_; simp (maxSteps:=9^7) only [go_sem, g4, gB, ckR]
        refine ⟨_, Tryz.call27, (hfind _).mono ?_⟩
        rintro e σ1 ⟨rfl, rfl⟩
        simp only [go_sem]
        refine hK _ _ ?_; clear hK K
        refine Gs.sq (Gs.rg [4, 5, 7, 8, 10, 12, 13] fun K hK => ?_); simp (maxSteps:=9^7) only [go_sem, g4, gB, ckR, hwm, sB]
        refine hK _ _ ?_; clear hK K
        refine Gs.sq (Gs.rg [4, 5, 7, 8, 10, 12, 13] fun K hK => ?_); simp (maxSteps:=9^7) only [go_sem]
        refine ⟨_, Tryz.call81, (need_calls false _).mono ?_⟩
        rintro e σ1 ⟨rfl, rfl⟩
        simp only [go_sem]
        have hps : putStep files (putsD files d) line st = none := by unfold putStep; rw [hinc]; simp only [hf]
        refine Pan.ofRound hR1 ?_
        rw [hps]
        exact ⟨rfl, hkx, hkr⟩
      · rw [hf] at hfind
        refine Gs.rg [4, 5, 7, 8, 10] fun K hK => ?_; simp (maxSteps:=9^7) only [go_sem, g4, gB, ckR]
        refine ⟨_, Tryz.call27, (hfind _).mono ?_⟩
        rintro e σ1 ⟨o3, hg3, rfl, rfl⟩
        simp only [go_sem]
        refine hK _ _ ?_; clear hK K
        have hg4 : ∀ {x y : AObj} {v5 v7 : D}, GrD o3 1 (own.map bD) (rowsP oo fo st (pR bc l1 r1 b4 b5 b7 x v5 v7 (sset bc y R0))) := fun {x y v5 v7} => grd_base hg3 fun b hb => rows_dom hb fun h => pR_dom (fun h => sset_dom (sset_dom' h)) h
        have g4c : ∀ {x y : AObj} {v5 v7 : D}, sget b4 (cellsOf o3 1 (own.map bD) ++ rowsP oo fo st (pR bc l1 r1 b4 b5 b7 x v5 v7 (sset bc y R0))) = some (.arr 1 [.ptr bc 5 0 0]) := hg4.keep g4
        have gBc : ∀ {x y : AObj} {v5 v7 : D}, sget bc (cellsOf o3 1 (own.map bD) ++ rowsP oo fo st (pR bc l1 r1 b4 b5 b7 x v5 v7 (sset bc y R0))) = some y := hg4.keep gB
        have sBc : ∀ {x y z : AObj} {v5 v7 : D}, sset bc z (cellsOf o3 1 (own.map bD) ++ rowsP oo fo st (pR bc l1 r1 b4 b5 b7 x v5 v7 (sset bc y R0))) = cellsOf o3 1 (own.map bD) ++ rowsP oo fo st (pR bc l1 r1 b4 b5 b7 x v5 v7 (sset bc z R0)) := fun {x y z v5 v7} => by
          rw [hg4.sset (by rw [gB]; rfl), sB]
        refine Gs.sq (Gs.rg [4, 5, 7, 8, 10, 12, 13] fun K hK => ?_); simp (maxSteps:=9^7) only [go_sem, g4c, gBc, ckR, hwm, sBc]
        refine hK _ _ ?_; clear hK K
        refine Gs.sq (Gs.rg [4, 5, 7, 8, 10, 12, 13] fun K hK => ?_); simp (maxSteps:=9^7) only [go_sem, hr]
        refine ⟨_, Tryz.call113, (right_calls (lB n) hnl _).mono ?_⟩
        rintro e σ1 ⟨rfl, rfl⟩
        simp only [go_sem, hbn', hr]
        refine ⟨_, Tryz.call81, (need_calls false _).mono ?_⟩
        rintro e σ1 ⟨rfl, rfl⟩
        simp only [go_sem]
        have hps : putStep files (putsD files d) line st = none := by unfold putStep; rw [hinc]; simp only [hf]; exact if_neg (fun h => by rw [hr] at h; cases h.1)
        refine Pan.ofRound hR1 ?_
        rw [hps]
        exact ⟨rfl, hkx.trans_sle hg4.sle, hg4.keep hkr⟩
      · rw [hf] at hfind
        refine Gs.rg [4, 5, 7, 8, 10] fun K hK => ?_; simp (maxSteps:=9^7) only [go_sem, g4, gB, ckR]
        refine ⟨_, Tryz.call27, (hfind _).mono ?_⟩
        rintro e σ1 ⟨o3, hg3, rfl, rfl⟩
        simp only [go_sem]
        refine hK _ _ ?_; clear hK K
        have hg4 : ∀ {x y : AObj} {v5 v7 : D}, GrD o3 1 (own.map bD) (rowsP oo fo st (pR bc l1 r1 b4 b5 b7 x v5 v7 (sset bc y R0))) := fun {x y v5 v7} => grd_base hg3 fun b hb => rows_dom hb fun h => pR_dom (fun h => sset_dom (sset_dom' h)) h
        have g4c : ∀ {x y : AObj} {v5 v7 : D}, sget b4 (cellsOf o3 1 (own.map bD) ++ rowsP oo fo st (pR bc l1 r1 b4 b5 b7 x v5 v7 (sset bc y R0))) = some (.arr 1 [.ptr bc 5 0 0]) := hg4.keep g4
        have gBc : ∀ {x y : AObj} {v5 v7 : D}, sget bc (cellsOf o3 1 (own.map bD) ++ rowsP oo fo st (pR bc l1 r1 b4 b5 b7 x v5 v7 (sset bc y R0))) = some y := hg4.keep gB
        have sBc : ∀ {x y z : AObj} {v5 v7 : D}, sset bc z (cellsOf o3 1 (own.map bD) ++ rowsP oo fo st (pR bc l1 r1 b4 b5 b7 x v5 v7 (sset bc y R0))) = cellsOf o3 1 (own.map bD) ++ rowsP oo fo st (pR bc l1 r1 b4 b5 b7 x v5 v7 (sset bc z R0)) := fun {x y z v5 v7} => by
          rw [hg4.sset (by rw [gB]; rfl), sB]
        refine Gs.sq (Gs.rg [4, 5, 7, 8, 10, 12, 13] fun K hK => ?_); simp (maxSteps:=9^7) only [go_sem, g4c, gBc, ckR, hwm, sBc]
        refine hK _ _ ?_; clear hK K
        refine Gs.sq ?_
        have hdm : decide (((st.many + 1 : Nat) : Int) ≤ 1000) = false := decide_eq_false (by omega)
        refine Gs.rg [4, 5, 7, 8, 10, 12, 13] fun K hK => ?_; simp (maxSteps:=9^7) only [go_sem, hr]
        refine ⟨_, Tryz.call113, (right_calls (lB n) hnl _).mono ?_⟩
        rintro e σ1 ⟨rfl, rfl⟩
        simp only [go_sem, hbn', hr, g4c, gBc, hdm]
        refine ⟨_, Tryz.call81, (need_calls false _).mono ?_⟩
        rintro e σ1 ⟨rfl, rfl⟩
        simp only [go_sem]
        have hps : putStep files (putsD files d) line st = none := by unfold putStep; rw [hinc]; simp only [hf]; exact if_neg (fun h => hm h.2)
        refine Pan.ofRound hR1 ?_
        rw [hps]
        exact ⟨rfl, hkx.trans_sle hg4.sle, hg4.keep hkr⟩
      · rw [hf] at hfind
        refine Gs.rg [4, 5, 7, 8, 10] fun K hK => ?_; simp (maxSteps:=9^7) only [go_sem, g4, gB, ckR]
        refine ⟨_, Tryz.call27, (hfind _).mono ?_⟩
        rintro e σ1 ⟨o3, hg3, rfl, rfl⟩
        simp only [go_sem]
        refine hK _ _ ?_; clear hK K
        have hg4 : ∀ {x y : AObj} {v5 v7 : D}, GrD o3 1 (own.map bD) (rowsP oo fo st (pR bc l1 r1 b4 b5 b7 x v5 v7 (sset bc y R0))) := fun {x y v5 v7} => grd_base hg3 fun b hb => rows_dom hb fun h => pR_dom (fun h => sset_dom (sset_dom' h)) h
        have g4c : ∀ {x y : AObj} {v5 v7 : D}, sget b4 (cellsOf o3 1 (own.map bD) ++ rowsP oo fo st (pR bc l1 r1 b4 b5 b7 x v5 v7 (sset bc y R0))) = some (.arr 1 [.ptr bc 5 0 0]) := hg4.keep g4
        have gBc : ∀ {x y : AObj} {v5 v7 : D}, sget bc (cellsOf o3 1 (own.map bD) ++ rowsP oo fo st (pR bc l1 r1 b4 b5 b7 x v5 v7 (sset bc y R0))) = some y := hg4.keep gB
        have sBc : ∀ {x y z : AObj} {v5 v7 : D}, sset bc z (cellsOf o3 1 (own.map bD) ++ rowsP oo fo st (pR bc l1 r1 b4 b5 b7 x v5 v7 (sset bc y R0))) = cellsOf o3 1 (own.map bD) ++ rowsP oo fo st (pR bc l1 r1 b4 b5 b7 x v5 v7 (sset bc z R0)) := fun {x y z v5 v7} => by
          rw [hg4.sset (by rw [gB]; rfl), sB]
        refine Gs.sq (Gs.rg [4, 5, 7, 8, 10, 12, 13] fun K hK => ?_); simp (maxSteps:=9^7) only [go_sem, g4c, gBc, ckR, hwm, sBc]
        refine hK _ _ ?_; clear hK K
        refine Gs.sq ?_
        have hdm : decide (((st.many + 1 : Nat) : Int) ≤ 1000) = true := decide_eq_true (by omega)
        refine Gs.rg [4, 5, 7, 8, 10, 12, 13] fun K hK => ?_; simp (maxSteps:=9^7) only [go_sem, hr]
        refine ⟨_, Tryz.call113, (right_calls (lB n) hnl _).mono ?_⟩
        rintro e σ1 ⟨rfl, rfl⟩
        simp only [go_sem, hbn', hr, g4c, gBc, hdm]
        refine ⟨_, Tryz.call81, (need_calls true _).mono ?_⟩
        rintro e σ1 ⟨rfl, rfl⟩
        simp only [go_sem]
        refine hK _ _ ?_; clear hK K
        refine Gs.sq (Gs.sq ?_)
        refine Gs.rg [4, 5, 7, 8, 10, 12] fun K hK => ?_; simp (maxSteps:=9^7) only [go_sem, g4c, gBc]
        have e1 : ∀ c, fo = some c → sget c (cellsOf o3 1 (own.map bD)) = none := fun c hc => by
          subst hc
          have hfr : ∀ k, o3 = some k → c ≠ k := fun k hk e => by
            subst hk
            have := (hg4 (x := LP1 .busy none) (y := .dblk) (v5 := .any) (v7 := .any)).fresh k rfl
            rw [← e] at this
            have h2 := (hgb (x := LP1 .busy none) (y := .dblk) (v5 := .any) (v7 := .any)).o.keep (sget_self c (.arr 1 (st.found.map sD)) (pR bc l1 r1 b4 b5 b7 (LP1 .busy none) .any .any (sset bc .dblk R0)))
            exact absurd (this.symm.trans h2) (by simp)
          cases o3 with
          | none => rfl
          | some k =>
            show sget c [(k, _)] = none
            rw [sget_cons, if_neg (hfr k rfl)]; rfl
        have hof : ∀ {x y : AObj} {v5 v7 : D}, oget 1 fo (cellsOf o3 1 (own.map bD) ++ rowsP oo fo st (pR bc l1 r1 b4 b5 b7 x v5 v7 (sset bc y R0))) = some (st.found.map sD) := fun {x y v5 v7} => by
          rw [oget_app e1]
          exact grd_oget2 hgb.f hgb.o
        have hdf : ∀ {x y : AObj} {v5 v7 : D}, sdelo fo (cellsOf o3 1 (own.map bD) ++ rowsP oo fo st (pR bc l1 r1 b4 b5 b7 x v5 v7 (sset bc y R0))) = cellsOf o3 1 (own.map bD) ++ (cellsOf oo 1 (st.out.map bD) ++ pR bc l1 r1 b4 b5 b7 x v5 v7 (sset bc y R0)) := fun {x y v5 v7} => by
          rw [sdelo_app e1]
          exact congrArg _ (grd_sdelo2 hgb.f hgb.o)
        have htf : List.take st.found.length (st.found.map sD) = st.found.map sD := List.take_of_length_le (by simp)
        have hrbc : r1 ≠ bc := fun e => by
          have := hP.nr
          rw [e] at this
          rw [this] at hbc; cases hbc
        refine ⟨_, Tryz.call50, (contains_strO st.found (lB n) _ hof rfl (by have := hst.found; have := hst.many; omega)).mono ?_⟩
        rintro e σ1 ⟨rfl, rfl⟩
        simp only [go_sem]
        refine hK _ _ ?_; clear hK K
        refine Gs.cond rfl (fun h71 => ?_) (fun h71 => ?_)
        · have hnin : (st.found.any fun s => (lB n).toList == s.toList) = false := by simpa using h71
          refine Gs.draw [4, 5, 7, 8, 10, 12] [78] [bc, b4] [10] [(0, true), (1, true), (2, true), (3, true), (4, true), (5, true), (6, true), (7, false), (8, true), (9, true), (10, false)] (by kernel_rfl) (by decide) (by kernel_rfl) fun K hK => ?_; simp (maxSteps:=9^7) only [go_sem, g4c, gBc, hof, hdf, htf]
          refine ⟨by decide, ⟨by simp, fun y hy => by rw [hy]; exact ⟨rfl, rfl⟩, by rw [List.length_map]; have := hst.found; have := hst.many; omega, by rw [List.length_map]; have := hst.found; have := hst.many; omega⟩, fun ob3 hz hf3 => ?_⟩
          have hmf : st.found.map sD ++ [D.v (Value.string (lB n))] = (st.found ++ [lB n]).map sD := by rw [List.map_append]; rfl
          simp only [hmf] at hz ⊢
          have hgX : ∀ {x y : AObj} {v5 v7 : D}, GrD ob3 1 ((st.found ++ [lB n]).map sD) (cellsOf o3 1 (own.map bD) ++ (cellsOf oo 1 (st.out.map bD) ++ pR bc l1 r1 b4 b5 b7 x v5 v7 (sset bc y R0))) := fun {x y v5 v7} => ⟨fun c hc => app_dom (hf3 c hc) fun h => app_dom h fun h => pR_dom (fun h => sset_dom (sset_dom' h)) h, hz⟩
          have hgoo : ∀ {x y : AObj} {v5 v7 : D}, GrD oo 1 (st.out.map bD) (pR bc l1 r1 b4 b5 b7 x v5 v7 (sset bc y R0)) := fun {x y v5 v7} => (grd_dropO (hgb (x := x) (y := y) (v5 := v5) (v7 := v7)).o hgb.f).1
          have hgo3 : ∀ {x y : AObj} {v5 v7 : D}, GrD o3 1 (own.map bD) (cellsOf oo 1 (st.out.map bD) ++ pR bc l1 r1 b4 b5 b7 x v5 v7 (sset bc y R0)) := fun {x y v5 v7} => grd_base (hg4 (x := x) (y := y) (v5 := v5) (v7 := v7)) fun b hb => app_dom (show sget b (cellsOf oo 1 (st.out.map bD) ++ (cellsOf fo 1 (st.found.map sD) ++ _)) = none from hb) fun h => (happ h).2
          have gBx : ∀ {x y : AObj} {v5 v7 : D}, sget bc (cellsOf ob3 1 ((st.found ++ [lB n]).map sD) ++ (cellsOf o3 1 (own.map bD) ++ (cellsOf oo 1 (st.out.map bD) ++ pR bc l1 r1 b4 b5 b7 x v5 v7 (sset bc y R0)))) = some y := fun {x y v5 v7} => hgX.keep (hgo3.keep (hgoo.keep (pR_in hP1 hbc1)))
          have g4x : ∀ {x y : AObj} {v5 v7 : D}, sget b4 (cellsOf ob3 1 ((st.found ++ [lB n]).map sD) ++ (cellsOf o3 1 (own.map bD) ++ (cellsOf oo 1 (st.out.map bD) ++ pR bc l1 r1 b4 b5 b7 x v5 v7 (sset bc y R0)))) = some (.arr 1 [.ptr bc 5 0 0]) := fun {x y v5 v7} => hgX.keep (hgo3.keep (hgoo.keep (pR_4 hP1)))
          have sBx : ∀ {x y z : AObj} {v5 v7 : D}, sset bc z (cellsOf ob3 1 ((st.found ++ [lB n]).map sD) ++ (cellsOf o3 1 (own.map bD) ++ (cellsOf oo 1 (st.out.map bD) ++ pR bc l1 r1 b4 b5 b7 x v5 v7 (sset bc y R0)))) = cellsOf ob3 1 ((st.found ++ [lB n]).map sD) ++ (cellsOf o3 1 (own.map bD) ++ (cellsOf oo 1 (st.out.map bD) ++ pR bc l1 r1 b4 b5 b7 x v5 v7 (sset bc z R0))) := fun {x y z v5 v7} => by
            rw [hgX.sset (by rw [hgo3.keep (hgoo.keep (pR_in hP1 hbc1))]; rfl), hgo3.sset (by rw [hgoo.keep (pR_in hP1 hbc1)]; rfl), hgoo.sset (by rw [pR_in hP1 hbc1]; rfl), pR_sb hP1 (by rw [hbc1]; rfl), sset_sset]
          refine ⟨?_, ?_⟩
          · rintro b (rfl | rfl)
            · rw [gBx, gBc]
            · rw [g4x, g4c]
          have hlf : ((st.found ++ [lB n]).map sD).length = (st.found ++ [lB n]).length := List.length_map ..
          simp only [go_sem, gBx, sBx, g4x, hlf]
          refine hK _ _ ?_; clear hK K
          have hsw1 : ∀ {x y : AObj} {v5 v7 : D}, _ := fun {x y v5 v7} => (hgX (x := x) (y := y) (v5 := v5) (v7 := v7)).swap hgo3
          have hsw2 : ∀ {x y : AObj} {v5 v7 : D}, _ := fun {x y v5 v7} => (hsw1 (x := x) (y := y) (v5 := v5) (v7 := v7)).2.1.swap hgoo
          have hgrX : GrP oo ob3 ⟨st.out, st.found ++ [lB n], st.many + 1⟩ (pR bc l1 r1 b4 b5 b7 .dblk .any .any R0) := GrP.base ⟨(hsw2 (x := .dblk) (y := .dblk) (v5 := .any) (v7 := .any)).1, hsw2.2.1⟩ fun b hb => pR_dom (fun h => sset_dom' h) hb
          have hg4e : ∀ {x y : AObj} {v5 v7 : D}, GrD o3 1 (own.map bD) (rowsP oo ob3 ⟨st.out, st.found ++ [lB n], st.many + 1⟩ (pR bc l1 r1 b4 b5 b7 x v5 v7 (sset bc y R0))) := fun {x y v5 v7} => grd_base (hsw1 (x := x) (y := y) (v5 := v5) (v7 := v7)).1 fun b hb => none_of_sle hsw2.2.2 hb
          refine Gs.le (ELe.refl _) ((SLe.append (SLe.append_left _ _) (hsw2.2.2.trans hsw1.1.sle)).trans hsw1.2.2) ?_
          have hst3 : PSt.Ok ⟨st.out, st.found ++ [lB n], st.many + 1⟩ := ⟨hst.out, (by have := hst.found; show (st.found ++ [lB n]).length ≤ st.many + 1; simp; omega), hm, (fun m hm => by
            rcases List.mem_append.1 hm with hm | hm
            · exact hst.right m hm
            · rw [List.mem_singleton.1 hm]; exact hr)⟩
          have hw2 : IntKind.i64.wrap (11 - ((d + 1 : Nat) : Int) + 1) = 11 - (d : Int) := by rw [wrap_in _ (by omega) (by omega)]; omega
          have hon : (own.map bD).length = own.length := List.length_map ..
          have hol : own.length < 2 ^ 40 := by
            unfold findF at hf
            cases hff : files.find? (fun f => f.name.toList == (lB n).toList) with
            | none => rw [hff] at hf; cases hf
            | some f => rw [hff] at hf; cases hf; exact hfb f (List.mem_of_find?_eq_some hff)
          have hckS : ∀ (s' : PSt) (fo' : Option Nat), ckS args decl files bc (pR bc l1 r1 b4 b5 b7 (LP1 .busy none) (.own oo 1 st.out.length) (.v (.int .i64 (11 - ((d + 1 : Nat) : Int)))) R0) s' fo' = pR bc l1 r1 b4 b5 b7 (LP1 .busy none) (.own oo 1 st.out.length) (.v (.int .i64 (11 - ((d + 1 : Nat) : Int)))) (ckS args decl files bc R0 s' fo') := fun s' fo' => pR_sb hP hbc
          have hgr3 : GrP oo ob3 ⟨st.out, st.found ++ [lB n], st.many + 1⟩ (pR bc l1 r1 b4 b5 b7 .dblk .any .any R0) := hgrX
          have hcall := hrec oo ob3 o3 own ⟨st.out, st.found ++ [lB n], st.many + 1⟩ (pR bc l1 r1 b4 b5 b7 (LP1 .busy none) (.own oo 1 st.out.length) (.v (.int .i64 (11 - ((d + 1 : Nat) : Int)))) R0) hst3 (by
            obtain ⟨z, hz⟩ := Option.isSome_iff_exists.1 hbc
            rw [pR_in hP hz]; rfl) (hgr3.base fun b hb => pR_dom id hb) (by rw [hckS]; exact hg4e) hol
          simp only [hckS] at hcall
          have hps : putStep files (putsD files d) line st = putsD files d own ⟨st.out, st.found ++ [lB n], st.many + 1⟩ := by
            unfold putStep
            rw [hinc]
            simp only [hf]
            rw [if_pos ⟨hr, hm⟩, show addF st.found (lB n) = st.found ++ [lB n] by unfold addF; rw [hnin]; rfl]
          have g4d : ∀ {x y : AObj} {v5 v7 : D}, sget b4 (cellsOf o3 1 (own.map bD) ++ rowsP oo ob3 ⟨st.out, st.found ++ [lB n], st.many + 1⟩ (pR bc l1 r1 b4 b5 b7 x v5 v7 (sset bc y R0))) = some (.arr 1 [.ptr bc 5 0 0]) := fun {x y v5 v7} => (hg4e (x := x) (y := y) (v5 := v5) (v7 := v7)).keep ((hgr3.base fun b hb => pR_dom (fun h => sset_dom h) hb).keep (pR_4 hP1))
          have g5d : ∀ {x y : AObj} {v5 v7 : D}, sget b5 (cellsOf o3 1 (own.map bD) ++ rowsP oo ob3 ⟨st.out, st.found ++ [lB n], st.many + 1⟩ (pR bc l1 r1 b4 b5 b7 x v5 v7 (sset bc y R0))) = some (.arr 1 [v5]) := fun {x y v5 v7} => (hg4e (x := x) (y := y) (v5 := v5) (v7 := v7)).keep ((hgr3.base fun b hb => pR_dom (fun h => sset_dom h) hb).keep (pR_5 hP1))
          have g7d : ∀ {x y : AObj} {v5 v7 : D}, sget b7 (cellsOf o3 1 (own.map bD) ++ rowsP oo ob3 ⟨st.out, st.found ++ [lB n], st.many + 1⟩ (pR bc l1 r1 b4 b5 b7 x v5 v7 (sset bc y R0))) = some (.arr 1 [v7]) := fun {x y v5 v7} => (hg4e (x := x) (y := y) (v5 := v5) (v7 := v7)).keep ((hgr3.base fun b hb => pR_dom (fun h => sset_dom h) hb).keep (pR_7 hP1))
          change Gs C2 _ _ (cellsOf o3 1 (own.map bD) ++ rowsP oo ob3 ⟨st.out, st.found ++ [lB n], st.many + 1⟩ (pR bc l1 r1 b4 b5 b7 (LP1 .busy none) (.own oo 1 st.out.length) (.v (.int .i64 (11 - ((d + 1 : Nat) : Int)))) (ckS args decl files bc R0 ⟨st.out, st.found ++ [lB n], st.many + 1⟩ ob3)))
          unfold ckS at hcall ⊢
          rcases hq : putsD files d own ⟨st.out, st.found ++ [lB n], st.many + 1⟩ with _ | s'
          · rw [hq] at hcall hps
            refine Gs.rg [4, 5, 7, 8, 12] fun K hK => ?_; simp (maxSteps:=9^7) only [go_sem, g4d, g5d, g7d, hw2, hon]
            refine ⟨_, Tryz.call137, hcall.mono ?_⟩
            rintro e σ1 ⟨rfl, hk⟩
            simp only [go_sem]
            refine Pan.ofRound hR1 ?_
            rw [hps]
            exact ⟨rfl, hk.pR hP, hk _ _ hrbc (pR_r hP)⟩
          · rw [hq] at hcall hps
            refine Gs.rg [4, 5, 7, 8, 12] fun K hK => ?_; simp (maxSteps:=9^7) only [go_sem, g4d, g5d, g7d, hw2, hon]
            refine ⟨_, Tryz.call137, hcall.mono ?_⟩
            rintro e σ1 ⟨oo', fo', hgr5, rfl, rfl⟩
            simp only [go_sem]
            have hgr6 : ∀ {x y : AObj} {v5 v7 : D}, GrP oo' fo' s' (pR bc l1 r1 b4 b5 b7 x v5 v7 (sset bc y R0)) := fun {x y v5 v7} => hgr5.base fun b hb => pR_dom (fun h => sset_dom h) hb
            have g5e : ∀ {x y : AObj} {v5 v7 : D}, sget b5 (rowsP oo' fo' s' (pR bc l1 r1 b4 b5 b7 x v5 v7 (sset bc y R0))) = some (.arr 1 [v5]) := hgr6.keep (pR_5 hP1)
            have s5e : ∀ {x y : AObj} {v5 v7 w : D}, sset b5 (.arr 1 [w]) (rowsP oo' fo' s' (pR bc l1 r1 b4 b5 b7 x v5 v7 (sset bc y R0))) = rowsP oo' fo' s' (pR bc l1 r1 b4 b5 b7 x w v7 (sset bc y R0)) := fun {x y v5 v7 w} => by
              rw [hgr6.sset _ (by rw [pR_5 hP1]; rfl), pR_s5 hP1]
            simp only [go_sem, g5e, s5e]
            refine hK _ _ ?_; clear hK K
            refine Gs.ib ?_
            refine Gs.roundDoneL hR1 hLP1 (hgr6.keep pR_l) ?_
            rw [hps]
            refine ⟨rfl, oo', fo', hgr5.base fun b hb => pR_dom id hb, ?_⟩
            rw [hgr6.sset _ (by rw [pR_l]; rfl), pR_sl, hRS]
            rfl
        · have hnin : (st.found.any fun s => (lB n).toList == s.toList) = true := by simpa using h71
          refine Gs.sk ?_
          have hst3 : PSt.Ok ⟨st.out, st.found, st.many + 1⟩ := ⟨hst.out, (by have := hst.found; show st.found.length ≤ st.many + 1; omega), hm, hst.right⟩
          have hw2 : IntKind.i64.wrap (11 - ((d + 1 : Nat) : Int) + 1) = 11 - (d : Int) := by rw [wrap_in _ (by omega) (by omega)]; omega
          have hon : (own.map bD).length = own.length := List.length_map ..
          have hol : own.length < 2 ^ 40 := by
            unfold findF at hf
            cases hff : files.find? (fun f => f.name.toList == (lB n).toList) with
            | none => rw [hff] at hf; cases hf
            | some f => rw [hff] at hf; cases hf; exact hfb f (List.mem_of_find?_eq_some hff)
          have hckS : ∀ (s' : PSt) (fo' : Option Nat), ckS args decl files bc (pR bc l1 r1 b4 b5 b7 (LP1 .busy none) (.own oo 1 st.out.length) (.v (.int .i64 (11 - ((d + 1 : Nat) : Int)))) R0) s' fo' = pR bc l1 r1 b4 b5 b7 (LP1 .busy none) (.own oo 1 st.out.length) (.v (.int .i64 (11 - ((d + 1 : Nat) : Int)))) (ckS args decl files bc R0 s' fo') := fun s' fo' => pR_sb hP hbc
          have hgr3 : GrP oo fo ⟨st.out, st.found, st.many + 1⟩ (pR bc l1 r1 b4 b5 b7 .dblk .any .any R0) := ⟨hgr.o, hgr.f⟩
          have hcall := hrec oo fo o3 own ⟨st.out, st.found, st.many + 1⟩ (pR bc l1 r1 b4 b5 b7 (LP1 .busy none) (.own oo 1 st.out.length) (.v (.int .i64 (11 - ((d + 1 : Nat) : Int)))) R0) hst3 (by
            obtain ⟨z, hz⟩ := Option.isSome_iff_exists.1 hbc
            rw [pR_in hP hz]; rfl) (hgr3.base fun b hb => pR_dom id hb) (by rw [hckS]; exact hg4) hol
          simp only [hckS] at hcall
          have hps : putStep files (putsD files d) line st = putsD files d own ⟨st.out, st.found, st.many + 1⟩ := by
            unfold putStep
            rw [hinc]
            simp only [hf]
            rw [if_pos ⟨hr, hm⟩, show addF st.found (lB n) = st.found by unfold addF; rw [if_pos hnin]]
          have g4d : ∀ {x y : AObj} {v5 v7 : D}, sget b4 (cellsOf o3 1 (own.map bD) ++ rowsP oo fo ⟨st.out, st.found, st.many + 1⟩ (pR bc l1 r1 b4 b5 b7 x v5 v7 (sset bc y R0))) = some (.arr 1 [.ptr bc 5 0 0]) := fun {x y v5 v7} => (hg4 (x := x) (y := y) (v5 := v5) (v7 := v7)).keep ((hgr3.base fun b hb => pR_dom (fun h => sset_dom h) hb).keep (pR_4 hP1))
          have g5d : ∀ {x y : AObj} {v5 v7 : D}, sget b5 (cellsOf o3 1 (own.map bD) ++ rowsP oo fo ⟨st.out, st.found, st.many + 1⟩ (pR bc l1 r1 b4 b5 b7 x v5 v7 (sset bc y R0))) = some (.arr 1 [v5]) := fun {x y v5 v7} => (hg4 (x := x) (y := y) (v5 := v5) (v7 := v7)).keep ((hgr3.base fun b hb => pR_dom (fun h => sset_dom h) hb).keep (pR_5 hP1))
          have g7d : ∀ {x y : AObj} {v5 v7 : D}, sget b7 (cellsOf o3 1 (own.map bD) ++ rowsP oo fo ⟨st.out, st.found, st.many + 1⟩ (pR bc l1 r1 b4 b5 b7 x v5 v7 (sset bc y R0))) = some (.arr 1 [v7]) := fun {x y v5 v7} => (hg4 (x := x) (y := y) (v5 := v5) (v7 := v7)).keep ((hgr3.base fun b hb => pR_dom (fun h => sset_dom h) hb).keep (pR_7 hP1))
          change Gs C2 _ _ (cellsOf o3 1 (own.map bD) ++ rowsP oo fo ⟨st.out, st.found, st.many + 1⟩ (pR bc l1 r1 b4 b5 b7 (LP1 .busy none) (.own oo 1 st.out.length) (.v (.int .i64 (11 - ((d + 1 : Nat) : Int)))) (ckS args decl files bc R0 ⟨st.out, st.found, st.many + 1⟩ fo)))
          unfold ckS at hcall ⊢
          rcases hq : putsD files d own ⟨st.out, st.found, st.many + 1⟩ with _ | s'
          · rw [hq] at hcall hps
            refine Gs.rg [4, 5, 7, 8, 12] fun K hK => ?_; simp (maxSteps:=9^7) only [go_sem, g4d, g5d, g7d, hw2, hon]
            refine ⟨_, Tryz.call137, hcall.mono ?_⟩
            rintro e σ1 ⟨rfl, hk⟩
            simp only [go_sem]
            refine Pan.ofRound hR1 ?_
            rw [hps]
            exact ⟨rfl, hk.pR hP, hk _ _ hrbc (pR_r hP)⟩
          · rw [hq] at hcall hps
            refine Gs.rg [4, 5, 7, 8, 12] fun K hK => ?_; simp (maxSteps:=9^7) only [go_sem, g4d, g5d, g7d, hw2, hon]
            refine ⟨_, Tryz.call137, hcall.mono ?_⟩
            rintro e σ1 ⟨oo', fo', hgr5, rfl, rfl⟩
            simp only [go_sem]
            have hgr6 : ∀ {x y : AObj} {v5 v7 : D}, GrP oo' fo' s' (pR bc l1 r1 b4 b5 b7 x v5 v7 (sset bc y R0)) := fun {x y v5 v7} => hgr5.base fun b hb => pR_dom (fun h => sset_dom h) hb
            have g5e : ∀ {x y : AObj} {v5 v7 : D}, sget b5 (rowsP oo' fo' s' (pR bc l1 r1 b4 b5 b7 x v5 v7 (sset bc y R0))) = some (.arr 1 [v5]) := hgr6.keep (pR_5 hP1)
            have s5e : ∀ {x y : AObj} {v5 v7 w : D}, sset b5 (.arr 1 [w]) (rowsP oo' fo' s' (pR bc l1 r1 b4 b5 b7 x v5 v7 (sset bc y R0))) = rowsP oo' fo' s' (pR bc l1 r1 b4 b5 b7 x w v7 (sset bc y R0)) := fun {x y v5 v7 w} => by
              rw [hgr6.sset _ (by rw [pR_5 hP1]; rfl), pR_s5 hP1]
            simp only [go_sem, g5e, s5e]
            refine hK _ _ ?_; clear hK K
            refine Gs.ib ?_
            refine Gs.roundDoneL hR1 hLP1 (hgr6.keep pR_l) ?_
            rw [hps]
            refine ⟨rfl, oo', fo', hgr5.base fun b hb => pR_dom id hb, ?_⟩
            rw [hgr6.sset _ (by rw [pR_l]; rfl), pR_sl, hRS]
            rfl
  obtain ⟨F, hF⟩ : ∃ F, putStep files (putsD files d) = F := ⟨_, rfl⟩
  rw [hF] at hround
  have hput : putsD files (d + 1) b st = lnGo F b [] st := by rw [← hF]; rfl
  rw [hput] at hC1
  have hFok : ∀ l s s', s.Ok → F l s = some s' → s'.Ok := fun l s s' hs he => putStep_ok (putsD_ok files d) l s s' hs (by rw [hF]; exact he)
  have hB : SeqB l1 10 1 (fun r τ => ∃ oo fo s1, PSt.Ok s1 ∧ GrP oo fo s1 (pR bc l1 r1 b4 b5 b7 .dblk .any .any R0) ∧ τ = RS oo fo s1 (LP1 .ready none) ∧ lnGo F r [] s1 = lnGo F b [] st ∧ r.length ≤ b.length) (fun e τ => match e with
      | .ret _ => ∃ oo fo s', lnGo F b [] st = some s' ∧ GrP oo fo s' (pR bc l1 r1 b4 b5 b7 .dblk .any .any R0) ∧ τ = RS oo fo s' (LP1 .ready none)
      | .panic dd => dd = failD ∧ lnGo F b [] st = none ∧ KeepX bc R0 τ ∧ sget r1 τ = some .dblk) := by
    refine ⟨?_, ?_⟩
    · rintro r k τ ⟨oo, fo, s1, hok, hgr, rfl, hgo, hln⟩ hk hkl
      rw [lnGo_mid r [] s1 k hk, List.nil_append] at hgo
      refine (hround (r.take (k + 1)) s1 oo fo hok hgr (by rw [List.length_take]; omega)).mono ?_
      intro e τ' h
      cases hc : F (r.take (k + 1)) s1 with
      | none =>
        rw [hc] at h hgo
        obtain ⟨rfl, hk1, hk2⟩ := h
        exact .inr (.inr ⟨failD, rfl, rfl, hgo.symm, hk1, hk2⟩)
      | some s2 =>
        rw [hc] at h hgo
        obtain ⟨rfl, oo', fo', hg', rfl⟩ := h
        exact .inl ⟨rfl, oo', fo', s2, hFok _ _ _ hok hc, hg', rfl, hgo, by rw [List.length_drop]; omega⟩
    · rintro r τ ⟨oo, fo, s1, hok, hgr, rfl, hgo, hln⟩ hk
      rw [lnGo_last r [] s1 hk, List.nil_append] at hgo
      refine (hround r s1 oo fo hok hgr (by omega)).mono ?_
      intro e τ' h
      cases hc : F r s1 with
      | none =>
        rw [hc] at h hgo
        obtain ⟨rfl, hk1, hk2⟩ := h
        exact .inr ⟨failD, rfl, rfl, hgo.symm, hk1, hk2⟩
      | some s2 =>
        rw [hc] at h hgo
        obtain ⟨rfl, oo', fo', hg', rfl⟩ := h
        exact .inl ⟨_, rfl, oo', fo', s2, hgo.symm, hg', rfl⟩
  have hP0 : ∀ {y : AObj}, PN l1 r1 b4 b5 b7 (sset bc y R0) := fun {y} => hP.base fun b hb => sset_dom hb
  have hgb0 : ∀ {x y : AObj} {v5 v7 : D}, GrP oo fo st (pR bc l1 r1 b4 b5 b7 x v5 v7 (sset bc y R0)) := fun {x y v5 v7} => hgPB.base fun b hb => pR_dom (fun h => sset_dom h) hb
  have hZ : SLe (rowsP oo fo st (ckS args decl files bc R0 st fo)) ((b7, .arr 1 [.v (.int .i64 (11 - ((d + 1 : Nat) : Int)))]) :: (b5, .arr 1 [.own oo 1 st.out.length]) :: (b4, .arr 1 [.ptr bc 5 0 0]) :: (cellsOf ob 1 (b.map bD) ++ rowsP oo fo st (ckS args decl files bc R0 st fo))) := sle_push (sle_push (sle_push hgb.sle hb4) hb5) hb7
  have hZ1 : SLe (rowsP oo fo st (ckS args decl files bc R0 st fo)) ((l1, LP1 .ready none) :: (r1, .dblk) :: (seqC bs bd bk b 10 1 ++ ((b7, .arr 1 [.v (.int .i64 (11 - ((d + 1 : Nat) : Int)))]) :: (b5, .arr 1 [.own oo 1 st.out.length]) :: (b4, .arr 1 [.ptr bc 5 0 0]) :: (cellsOf ob 1 (b.map bD) ++ rowsP oo fo st (ckS args decl files bc R0 st fo))))) := sle_push (sle_push (hZ.trans (SLe.append_right hap.symm)) hr1) (by rw [sget_cons, if_neg hlr]; exact hl1)
  have hne2 : ∀ {c k : Nat} {x : AObj} {τ : Store}, sget k τ = none → sget c τ ≠ none → c ≠ k := fun {c k x τ} hk hc e => hc (by rw [e]; exact hk)
  have hin : ∀ {c : Nat} {o : AObj}, sget c ((b7, .arr 1 [.v (.int .i64 (11 - ((d + 1 : Nat) : Int)))]) :: (b5, .arr 1 [.own oo 1 st.out.length]) :: (b4, .arr 1 [.ptr bc 5 0 0]) :: (cellsOf ob 1 (b.map bD) ++ rowsP oo fo st (ckS args decl files bc R0 st fo))) = some o → sget c ((l1, LP1 .ready none) :: (r1, .dblk) :: (seqC bs bd bk b 10 1 ++ ((b7, .arr 1 [.v (.int .i64 (11 - ((d + 1 : Nat) : Int)))]) :: (b5, .arr 1 [.own oo 1 st.out.length]) :: (b4, .arr 1 [.ptr bc 5 0 0]) :: (cellsOf ob 1 (b.map bD) ++ rowsP oo fo st (ckS args decl files bc R0 st fo))))) = some o := fun {c o} h =>
    (sle_push (sle_push (SLe.append_right hap.symm) hr1) (by rw [sget_cons, if_neg hlr]; exact hl1)) c o h
  have hτ : SLe (RS oo fo st (LP1 .ready none)) ((l1, LP1 .ready none) :: (r1, .dblk) :: (seqC bs bd bk b 10 1 ++ ((b7, .arr 1 [.v (.int .i64 (11 - ((d + 1 : Nat) : Int)))]) :: (b5, .arr 1 [.own oo 1 st.out.length]) :: (b4, .arr 1 [.ptr bc 5 0 0]) :: (cellsOf ob 1 (b.map bD) ++ rowsP oo fo st (ckS args decl files bc R0 st fo))))) := by
    rw [hRS]
    unfold rowsP pR
    refine SLe.append ((SLe.append_left _ _).trans hZ1) (SLe.append (((SLe.append_left _ _).trans hgP.o.sle).trans hZ1) ?_)
    refine .cons (sget_self ..) (.cons (by rw [sget_cons, if_neg (Ne.symm hlr), sget_self]) (.cons (hin (sget_self ..)) (.cons (hin ?_) (.cons (hin ?_) (hsX.trans hZ1)))))
    · rw [sget_cons, if_neg hP.h57, sget_self]
    · rw [sget_cons, if_neg hP.h47, sget_cons, if_neg hP.h45, sget_self]
  have hapx : Apart (seqC bs bd bk b 10 1) (RS oo fo st (LP1 .ready none)) := fun c hc => by
    cases hx : sget c (RS oo fo st (LP1 .ready none)) with
    | none => rfl
    | some o =>
      have h1 := hτ c o hx
      have hcl : c ≠ l1 := fun e => hc (by rw [e]; exact hl2.1)
      have hcr : c ≠ r1 := fun e => hc (by rw [e]; exact hr2.1)
      rw [sget_cons, if_neg hcl, sget_cons, if_neg hcr] at h1
      have h2 := hap c hc
      obtain ⟨y, hy⟩ := Option.ne_none_iff_exists'.1 hc
      rw [hRS] at hx
      have h3 : sget c (rowsP oo fo st (pR bc l1 r1 b4 b5 b7 (LP1 .ready none) (.own oo 1 st.out.length) (.v (.int .i64 (11 - ((d + 1 : Nat) : Int)))) (ckS args decl files bc R0 st fo))) = none := rows_dom (A := ckS args decl files bc R0 st fo) (none_of_sle hZ h2) fun h => by
        have h4 := hne (show sget c ((b7, _) :: _) = none from h2)
        have h5 := hne h4.2
        have h6 := hne h5.2
        unfold pR
        rw [sget_cons, if_neg hcl, sget_cons, if_neg hcr, sget_cons, if_neg h4.1, sget_cons, if_neg h5.1, sget_cons, if_neg h6.1, h]
      rw [h3] at hx; cases hx
  refine (splitSeq1_calls (by omega) hB hN b hbl (RS oo fo st (LP1 .ready none)) _ ⟨oo, fo, st, hst, hgPB, rfl, rfl, Nat.le_refl _⟩ hapx hτ (fun c o hc => ?_)).mono ?_
  · rw [sget_cons, if_neg (fun e => by rw [e, hl2.1] at hc; cases hc), sget_cons, if_neg (fun e => by rw [e, hr2.1] at hc; cases hc)]
    exact sget_append_some hc
  rintro e σ' ⟨τ', hle, hQ⟩
  rcases e with dd | dd
  rotate_left
  · obtain ⟨rfl, hnone, hk1, hk2⟩ := hQ
    refine Pan.ofM (σ' := sdel r1 τ') hC1 Tryz.func137 (by simp) (fun c hc => ?_) (fun c o hc => ?_) (fun c hc => ?_) ?_
    · rw [List.mem_singleton.1 hc]; exact hle _ _ hk2
    · rw [sget_sdel] at hc
      split at hc
      · cases hc
      · exact hle _ _ hc
    · rw [List.mem_singleton.1 hc, sget_sdel, if_pos rfl]
    · rw [hnone]
      refine ⟨rfl, fun c o hcb hc => ?_⟩
      rw [sget_sdel, if_neg (fun e => by rw [e, hP.nr] at hc; cases hc)]
      exact hk1 c o hcb hc
  obtain ⟨oo', fo', s', hsome, hgr, rfl⟩ := hQ
  rw [hsome] at hC1
  rw [hRS] at hle
  have hgr6 : ∀ {x y : AObj} {v5 v7 : D}, GrP oo' fo' s' (pR bc l1 r1 b4 b5 b7 x v5 v7 (sset bc y R0)) := fun {x y v5 v7} => hgr.base fun b hb => pR_dom (fun h => sset_dom h) hb
  unfold ckS at hle hC1
  refine ⟨.ready, none, hle _ _ (hgr6.keep pR_l), rfl, ?_⟩
  refine Gs.le (ELe.refl _) (hle.sset (by rw [hgr6.keep pR_l]; rfl)) ?_
  rw [hgr6.sset _ (by rw [pR_l]; rfl), pR_sl]
  simp only [Option.map_none, Option.toList_none, List.nil_append]
  have g5z : ∀ {x y : AObj} {v5 v7 : D}, sget b5 (rowsP oo' fo' s' (pR bc l1 r1 b4 b5 b7 x v5 v7 (sset bc y R0))) = some (.arr 1 [v5]) := hgr6.keep (pR_5 hP0)
  have hpn : ∀ c, sget c (pR bc l1 r1 b4 b5 b7 .dblk .any .any R0) = none → sget c R0 = none := fun c hc => by
    cases hx : sget c R0 with
    | none => rfl
    | some o => rw [pR_in hP hx] at hc; cases hc
  have hgr7 : GrP oo' fo' s' R0 := hgr.base hpn
  refine Gs.ib ?_
  refine Gs.sq (Gs.rg [5] fun K hK => ?_); simp (maxSteps:=9^7) only [go_sem, g5z]
  refine hK _ _ ?_; clear hK K
  refine Gs.retM (σ' := rowsP oo' fo' s' (sset bc (ckR args decl files (.own fo' 1 s'.found.length) (s'.many : Int)) R0)) hC1 Tryz.func137 (by simp) (fun c hc => ?_) (rows_sle hgr6 (fun c o hc => pR_in hP0 hc)) (fun c hc => ?_) (by simp [go_sem]) ?_
  · rw [List.mem_singleton.1 hc]; exact hgr6.keep (pR_r hP0)
  · rw [List.mem_singleton.1 hc]; exact rows_none (hgr6 (x := .dblk) (y := .dblk) (v5 := .any) (v7 := .any)) (by rw [pR_r hP0]; rfl) (sset_dom hP.nr)
  · simp only [go_sem]
    exact ⟨oo', fo', hgr7, rfl, rfl⟩
theorem puts_calls (hfl : files.length < 2 ^ 31) (hfb : ∀ f ∈ files, f.b.length < 2 ^ 40) : ∀ lv, lv ≤ 11 → PutsC args decl files bc lv
  | 0, _ => puts_zero args decl files bc
  | d + 1, h => puts_succ args decl files bc hfl hfb d (by omega) (puts_calls hfl hfb d (by omega))
end
end Go.Ab.S16
namespace Go.Ab.S16
open Go Go.Proofs Go.RowKit
def incM (args decl : List ByteArray) (files : List XFile) : Option PSt := (oneB decl files args).bind fun b => putsD files 11 b ⟨[], [], 0⟩
def VR (args decl : List ByteArray) (files : List XFile) (bc : Nat) (σ : Store) (spec : Option (List UInt8 × List ByteArray)) (e : AEnd) (σ' : Store) : Prop := match spec with
  | some (b, found) => ∃ (o fo : Option Nat) (many : Int), GrD o 1 (b.map bD) (cellsOf fo 1 (found.map sD) ++ sset bc (ckR args decl files (.own fo 1 found.length) many) σ) ∧ GrD fo 1 (found.map sD) (sset bc (ckR args decl files (.own fo 1 found.length) many) σ) ∧ e = .ret (.own o 1 b.length) ∧ σ' = cellsOf o 1 (b.map bD) ++ (cellsOf fo 1 (found.map sD) ++ sset bc (ckR args decl files (.own fo 1 found.length) many) σ)
  | none => e = .panic failD ∧ KeepX bc σ σ'
section
variable (args decl : List ByteArray) (files : List XFile) (bc : Nat) (σ : Store)
theorem VR.of_AR {spec : Option (List UInt8)} {e : AEnd} {σ' : Store} (hc : sget bc σ = some (ckR args decl files (.own none 1 0) 0)) (h : AR spec (ownRet σ) σ e σ') : VR args decl files bc σ (spec.map fun b => (b, [])) e σ' := by
  cases spec with
  | none => exact ⟨h.1, fun b o _ hb => h.2 b o hb⟩
  | some b =>
    obtain ⟨o, hg, he, hs⟩ := h
    have hss : sset bc (ckR args decl files (.own none 1 ([] : List ByteArray).length) 0) σ = σ := sset_same hc
    refine ⟨o, none, 0, ?_, ?_, ?_, ?_⟩
    · show GrD o 1 (b.map bD) (sset bc _ σ)
      rw [hss]; exact hg
    · exact GrD.nil _ _
    · rw [he, List.length_map]
    · rw [hs, hss]; rfl
theorem inc_calls (hc : sget bc σ = some (ckR args decl files (.own none 1 0) 0)) (hl : files.length < 2 ^ 31) (hb : ∀ f ∈ files, f.b.length < 2 ^ 40) (hd : decl.length < 2 ^ 40) (ha : args.length < 2 ^ 40) :
    AC Tryz.prog 110 [.ptr bc 5 0 0] σ (VR args decl files bc σ ((incM args decl files).map fun s => (s.out, s.found))) := by
  have hone := one_calls args decl files (.own none 1 0) 0 bc σ hc hl hb hd ha
  refine AC.of_body Tryz.func110 rfl Tryz.ntmps110 (by simp) fun C hC => ?_
  cases h1 : oneB decl files args with
  | none =>
    rw [h1] at hone
    have hi : incM args decl files = none := by unfold incM; rw [h1]; rfl
    rw [hi] at hC
    refine Gs.sq (Gs.rg [0] fun K hK => ?_); simp (maxSteps:=9^7) only [go_sem]
    refine hK _ _ ?_; clear hK K
    refine Gs.sq (Gs.rg [0] fun K hK => ?_); simp (maxSteps:=9^7) only [go_sem]
    refine ⟨_, Tryz.call131, hone.mono ?_⟩
    rintro e σ1 ⟨rfl, hs⟩
    simp only [go_sem]
    exact Pan.of hC Tryz.func110 ⟨rfl, fun b o _ hb => hs b o hb⟩
  | some b =>
    rw [h1] at hone
    have hi : incM args decl files = putsD files 11 b ⟨[], [], 0⟩ := by unfold incM; rw [h1]; rfl
    have hbl : b.length < 2 ^ 40 := by
      unfold oneB at h1
      split at h1
      · unfold argF at h1
        obtain ⟨b', hf, h2⟩ := Option.bind_eq_some_iff.1 h1
        split at h2
        · cases h2
          unfold findF at hf
          cases hff : files.find? (fun f => f.name.toList == _) with
          | none => rw [hff] at hf; cases hf
          | some f => rw [hff] at hf; cases hf; exact hb f (List.mem_of_find?_eq_some hff)
        · cases h2
      · cases h1
    have hss : sset bc (ckR args decl files (.own none 1 ([] : List ByteArray).length) ((0 : Nat) : Int)) σ = σ := sset_same hc
    have hps := fun (ob : Option Nat) (hg : GrD ob 1 (b.map bD) σ) => puts_calls args decl files bc hl hb 11 (Nat.le_refl _) none none ob b ⟨[], [], 0⟩ σ ⟨by simp, by simp, by simp, by simp⟩ (by rw [hc]; rfl) ⟨GrD.nil _ _, GrD.nil _ _⟩ (by
      show GrD ob 1 (b.map bD) (sset bc _ σ)
      rw [hss]; exact hg) hbl
    rw [hi] at hC
    refine Gs.sq (Gs.rg [0] fun K hK => ?_); simp (maxSteps:=9^7) only [go_sem]
    refine hK _ _ ?_; clear hK K
    refine Gs.sq (Gs.rg [0] fun K hK => ?_); simp (maxSteps:=9^7) only [go_sem]
    refine ⟨_, Tryz.call131, hone.mono ?_⟩
    rintro e σ1 ⟨o, hg, rfl, rfl⟩
    simp only [go_sem]
    have hp := hps o hg
    unfold ckS at hp
    rw [hss] at hp
    have hp2 := AC.args_le (args := [.ptr bc 5 0 0, .v (.slice none 0 0), .own o 1 (b.map bD).length, .v (.int .i64 0)]) hp fun w S vs h => by
      obtain ⟨v1, vs1, rfl, h1, h2⟩ := h.cons_inv
      obtain ⟨v2, vs2, rfl, h3, h4⟩ := h2.cons_inv
      rw [List.length_map] at h4
      exact .cons h1 (.cons (DLe.nil_own 1 w S v2 h3) h4)
    clear hp
    rcases hq : putsD files 11 b ⟨[], [], 0⟩ with _ | s'
    · rw [hq] at hp2 hC
      refine ⟨_, Tryz.call137, hp2.mono ?_⟩
      rintro e σ' ⟨rfl, hk⟩
      simp only [go_sem]
      exact Pan.of hC Tryz.func110 ⟨rfl, hk⟩
    rw [hq] at hp2 hC
    refine ⟨_, Tryz.call137, hp2.mono ?_⟩
    rintro e σ' ⟨oo, fo, hgp, rfl, rfl⟩
    simp only [go_sem]
    refine hK _ _ ?_; clear hK K
    refine Gs.ret hC Tryz.func110 (by simp [go_sem]) ?_
    simp only [go_sem]
    have hgs : GrP oo fo s' (sset bc (ckR args decl files (.own fo 1 s'.found.length) (s'.many : Int)) σ) := hgp.base fun b hb => sset_dom hb
    exact ⟨oo, fo, (s'.many : Int), hgs.o, hgs.f, rfl, rfl⟩
def runV (args decl : List ByteArray) (files : List XFile) (verb : List UInt8) : Option (List UInt8 × List ByteArray) :=
  if verb = [99, 97, 116] then (allB decl files args []).map fun b => (b, [])
  else if verb = [114, 101, 118] then ((oneB decl files args).map List.reverse).map fun b => (b, [])
  else if verb = [115, 117, 109] then (sumF decl files args).map fun b => (b, [])
  else if verb = [112, 117, 116] then some (putB args, [])
  else if verb = [105, 110, 99] then (incM args decl files).map fun s => (s.out, s.found)
  else none
def isVerb (verb : List UInt8) : Bool := [[99, 97, 116], [114, 101, 118], [115, 117, 109], [112, 117, 116], [105, 110, 99], [102, 97, 105, 108]].contains verb
theorem verb_spec (verb : List UInt8) (hv : isVerb verb = true) (hc : sget bc σ = some (ckR args decl files (.own none 1 0) 0)) (hl : files.length < 2 ^ 31) (hb : ∀ f ∈ files, f.b.length < 2 ^ 20) (hd : decl.length < 2 ^ 40) (ha : args.length < 2 ^ 16)
    (hj : (Lib.join (args.map (·.data.toList)) [32]).length < 2 ^ 45) : ∃ g, mfind (.string (lB verb)) verbsM = some (.clo (.func g) [] []) ∧ (∀ args w, (callFunc g args).run Tryz.prog w = .ok (.enter g args) w) ∧ AC Tryz.prog g [.ptr bc 5 0 0] σ (VR args decl files bc σ (runV args decl files verb)) := by
  have hb40 : ∀ f ∈ files, f.b.length < 2 ^ 40 := fun f hf => Nat.lt_trans (hb f hf) (by decide)
  have key : verb = [99, 97, 116] ∨ verb = [114, 101, 118] ∨ verb = [115, 117, 109] ∨ verb = [112, 117, 116] ∨ verb = [105, 110, 99] ∨ verb = [102, 97, 105, 108] := by simpa [isVerb] using hv
  rcases key with rfl | rfl | rfl | rfl | rfl | rfl
  · refine ⟨_, (by kernel_rfl : mfind (.string (lB [99, 97, 116])) verbsM = some (.clo (.func 106) [] [])), Tryz.call106, ?_⟩
    exact (cat_calls args decl files _ _ bc σ hc hl hb40 hd (by omega)).mono fun e σ' h => VR.of_AR args decl files bc σ hc h
  · refine ⟨_, (by kernel_rfl : mfind (.string (lB [114, 101, 118])) verbsM = some (.clo (.func 107) [] [])), Tryz.call107, ?_⟩
    exact (rev_calls args decl files _ _ bc σ hc hl hb40 hd (by omega)).mono fun e σ' h => VR.of_AR args decl files bc σ hc h
  · refine ⟨_, (by kernel_rfl : mfind (.string (lB [115, 117, 109])) verbsM = some (.clo (.func 108) [] [])), Tryz.call108, ?_⟩
    exact (sum_calls args decl files _ _ bc σ hc hl hb hd ha).mono fun e σ' h => VR.of_AR args decl files bc σ hc h
  · refine ⟨_, (by kernel_rfl : mfind (.string (lB [112, 117, 116])) verbsM = some (.clo (.func 109) [] [])), Tryz.call109, ?_⟩
    exact (put_calls args decl files _ _ bc σ hc (by omega) hj).mono fun e σ' h => VR.of_AR (spec := some (putB args)) args decl files bc σ hc h
  · refine ⟨_, (by kernel_rfl : mfind (.string (lB [105, 110, 99])) verbsM = some (.clo (.func 110) [] [])), Tryz.call110, ?_⟩
    exact inc_calls args decl files bc σ hc hl hb40 hd (by omega)
  · refine ⟨_, (by kernel_rfl : mfind (.string (lB [102, 97, 105, 108])) verbsM = some (.clo (.func 111) [] [])), Tryz.call111, ?_⟩
    exact (fail_calls bc σ).mono fun e σ' h => VR.of_AR (spec := none) args decl files bc σ hc h
end
end Go.Ab.S16
namespace Go.Ab.S16
open Go Go.Proofs Go.RowKit
theorem verb_none (verb : List UInt8) (hv : isVerb verb = false) : mfind (.string (lB verb)) verbsM = none := by
  have e : verbsM = [(.string (lB [99, 97, 116]), .clo (.func 106) [] []), (.string (lB [114, 101, 118]), .clo (.func 107) [] []), (.string (lB [115, 117, 109]), .clo (.func 108) [] []), (.string (lB [112, 117, 116]), .clo (.func 109) [] []), (.string (lB [105, 110, 99]), .clo (.func 110) [] []), (.string (lB [102, 97, 105, 108]), .clo (.func 111) [] [])] := by kernel_rfl
  have hk : ∀ w : List UInt8, verb ≠ w → ¬ keyEq (.string (lB verb)) (.string (lB w)) = true := fun w h hq => by
    have : lB verb = lB w := by simpa [keyEq] using hq
    exact h (by rw [← bL_lB verb, this, bL_lB])
  simp only [isVerb, List.contains_eq_mem, List.mem_cons, List.not_mem_nil, or_false, decide_eq_false_iff_not, not_or] at hv
  obtain ⟨h1, h2, h3, h4, h5, h6⟩ := hv
  rw [e]
  simp only [mfind, if_neg (hk _ h1), if_neg (hk _ h2), if_neg (hk _ h3), if_neg (hk _ h4), if_neg (hk _ h5), if_neg (hk _ h6)]
theorem space_gives (W : World) (x : Nat) : FnGives Tryz.prog 104 #[] #[encR x] (.bool (x == 32)) W := by
  unfold FnGives
  show Calls Tryz.prog 104 #[.int .i32 (x : Int)] W _
  go_enter Tryz.func104, Tryz.ntmps104
  go_wp2
  go_ret
  have hx : ((x : Int) == 32) = (x == 32) := by
    rw [Bool.eq_iff_iff, beq_iff_eq, beq_iff_eq]
    omega
  refine ⟨?_, 0, rfl⟩
  show Ending.returned (.bool ((x : Int) == 32)) = Ending.returned (.bool (x == 32))
  rw [hx]
def wordsM (s : ByteArray) : List ByteArray := Lib.goFieldsP (fun x => x == 32) s
theorem fields_calls (s : ByteArray) (hs : s.size ≤ 4294967296) (σ : Store) : AC Tryz.prog 103 [.v (.string s), .clo (.func 104) [] []] σ
    (fun e σ' => ∃ o, GrD o 1 ((wordsM s).map sD) σ ∧ e = .ret (.own o 1 ((wordsM s).map sD).length) ∧ σ' = cellsOf o 1 ((wordsM s).map sD) ++ σ) := by
  refine (AC.of_row (e0 := 9) (R := fun xs => xs = (wordsM s).map Value.string) fun w S vs hS hst hr => ?_).mono ?_
  · obtain ⟨v1, vs1, rfl, h1, h2⟩ := hr.cons_inv
    obtain ⟨v2, vs2, rfl, h3, h4⟩ := h2.cons_inv
    obtain rfl := h4.nil_inv
    obtain rfl := h1.v_inv
    cases h3 with
    | clo hf hc =>
    obtain rfl := hf.nil_inv
    obtain rfl := hc.nil_inv
    refine (Tryz.strings_FieldsFunc_runes 104 #[] Tryz.call104 (fun x => x == 32) s w hs (fun W x _ _ => space_gives W x)).mono ?_
    rintro e w' ⟨A, rfl, hA, hrow, hb⟩
    refine ⟨_, (wordsM s).map Value.string, rfl, ?_, ?_, rfl, hb⟩
    · rw [List.length_map]; exact hrow
    · rw [List.all_eq_true]
      intro v hv
      obtain ⟨t, _, rfl⟩ := List.mem_map.1 hv
      rfl
  · rintro e σ' ⟨o, xs, rfl, hg, rfl, rfl⟩
    have hm : ((wordsM s).map Value.string).map D.v = (wordsM s).map sD := by rw [List.map_map]; rfl
    rw [hm] at hg ⊢
    exact ⟨o, hg, rfl, rfl⟩
def okAt (ws : List ByteArray) (i : Nat) : Bool := match ws[i]? with
  | some n => rightM (bL n) && !((ws.take i).any fun s => n.toList == s.toList)
  | none => true
def chkO (ws : List ByteArray) (dep : ByteArray) : Option (List ByteArray × ByteArray) := if (∀ i < ws.length, okAt ws i = true) ∧ 0 < ws.length then some (ws, dep) else none
def outsM (ws : List ByteArray) : Option (List ByteArray × ByteArray) :=
  match ws.findIdx? (fun s => (⟨#[58]⟩ : ByteArray).toList == s.toList) with
  | some k => if k + 2 = ws.length ∧ rightM (bL (ws.getD (k + 1) ⟨#[]⟩)) = true then chkO (ws.take k) (ws.getD (k + 1) ⟨#[]⟩) else none
  | none => chkO ws ⟨#[]⟩
theorem outputs_calls (ws : List ByteArray) (hl : ws.length < 2 ^ 40) (hB : ∀ s ∈ ws, s.size < 2 ^ 40) (σ : Store) :
    AC Tryz.prog 105 [.slc (ws.map sD)] σ (AR (outsM ws) (fun x e σ' => e = .ret (.tup [.slc (x.1.map sD), .v (.string x.2)]) ∧ σ' = σ) σ) := by
  have hll : (ws.map sD).length = ws.length := List.length_map ..
  refine AC.of_body Tryz.func105 rfl Tryz.ntmps105 (by simp) fun C hC => ?_
  cases hk : ws.findIdx? (fun s => (⟨#[58]⟩ : ByteArray).toList == s.toList) with
  | none =>
    have hi : idxI (fun s : ByteArray => (⟨#[58]⟩ : ByteArray).toList == s.toList) ws = -1 := by unfold idxI; rw [hk]
    have ho : outsM ws = chkO ws ⟨#[]⟩ := by unfold outsM; rw [hk]
    rw [ho] at hC
    refine Gs.sq (Gs.rg [0] fun K hK => ?_); simp (maxSteps:=9^7) only [go_sem]
    refine hK _ _ ?_; clear hK K
    refine Gs.sq (Gs.rg [0, 3] fun K hK => ?_); simp (maxSteps:=9^7) only [go_sem]
    refine ⟨_, Tryz.call89, (index_str ws ⟨#[58]⟩ _ hl).mono ?_⟩
    rintro e σ1 ⟨rfl, rfl⟩
    simp only [go_sem, hi]
    refine hK _ _ ?_; clear hK K
    refine Gs.sq (Gs.sq ?_)
    refine Gs.rg [0, 3, 4] fun K hK => ?_; simp (maxSteps:=9^7) only [go_sem]
    refine hK _ _ ?_; clear hK K
    refine Gs.condF rfl ?_
    refine Gs.sk ?_
    refine Gs.sq (Gs.sq ?_)
    refine Gs.rg [0, 3] fun K hK => ?_; simp (maxSteps:=9^7) only [go_sem, hll]
    refine hK _ _ ?_; clear hK K
    refine Gs.bk ?_
    refine Gs.rebase [0, 3, 33, 34, 35] ?_
    simp only [go_sem]
    refine Gs.while (fun (i : Nat) env' σ'' => (i ≤ ws.length ∧ ∀ j < i, okAt ws j = true) ∧ env' = [(0, .slc (ws.map sD)), (3, .v (.string ⟨#[]⟩)), (33, .slc (ws.map sD)), (34, .v (.int .i64 (ws.length : Int))), (35, .v (.int .i64 (i : Int)))] ∧ σ1 = σ'') (fun (i : Nat) => ws.length - i) 0 ⟨⟨Nat.zero_le _, fun j hj => absurd hj (by omega)⟩, rfl, rfl⟩ ?_
    rintro i env' σ'' ⟨⟨hi2, hall⟩, rfl, rfl⟩ ih
    have ih1 := ih
    refine Gs.sq (Gs.rg [0, 3, 33, 34, 35] fun K hK => ?_); simp (maxSteps:=9^7) only [go_sem]
    refine hK _ _ ?_; clear hK K
    refine Gs.sq ?_
    refine Gs.cond rfl (fun h36 => ?_) (fun h36 => ?_)
    · have hlt : i < ws.length := by simpa using h36
      have hg := getD_map_lt sD ws i hlt
      rw [sD] at hg
      have hi0 : (0 : Int) ≤ (i : Int) := by omega
      have hi1 : (i : Int) < (ws.length : Int) := by omega
      have hsz := hB _ (List.getElem_mem hlt)
      have hok : okAt ws i = (rightM (bL ws[i]) && !((ws.take i).any fun s => ws[i].toList == s.toList)) := by unfold okAt; rw [List.getElem?_eq_getElem hlt]
      have htk : (ws.map sD).take i = (ws.take i).map sD := (List.map_take ..).symm
      refine Gs.sk ?_
      refine Gs.sq ?_
      refine Gs.bk ?_
      refine Gs.sq (Gs.rg [0, 3, 33, 34, 35] fun K hK => ?_); simp (maxSteps:=9^7) only [go_sem, hll, hg, hi0, hi1]
      refine hK _ _ ?_; clear hK K
      rcases (by cases rightM (bL ws[i]) <;> cases ((ws.take i).any fun s => ws[i].toList == s.toList) <;> simp : rightM (bL ws[i]) = false ∨ (rightM (bL ws[i]) = true ∧ ((ws.take i).any fun s => ws[i].toList == s.toList) = true) ∨ (rightM (bL ws[i]) = true ∧ ((ws.take i).any fun s => ws[i].toList == s.toList) = false)) with hr | ⟨hr, ha⟩ | ⟨hr, ha⟩
      · refine Gs.rg [0, 3, 5, 6, 33, 34, 35] fun K hK => ?_; simp (maxSteps:=9^7) only [go_sem, htk]
        refine ⟨_, Tryz.call113, (right_calls _ hsz _).mono ?_⟩
        rintro e σ1 ⟨rfl, rfl⟩
        simp only [go_sem, hr]
        refine ⟨_, Tryz.call81, (need_calls false _).mono ?_⟩
        rintro e σ1 ⟨rfl, rfl⟩
        simp only [go_sem]
        refine Pan.of hC Tryz.func105 ?_
        rw [show chkO ws ⟨#[]⟩ = none from if_neg fun h => by have := h.1 i hlt; rw [hok, hr] at this; cases this]
        exact ⟨rfl, SLe.refl _⟩
      · refine Gs.rg [0, 3, 5, 6, 33, 34, 35] fun K hK => ?_; simp (maxSteps:=9^7) only [go_sem, htk]
        refine ⟨_, Tryz.call113, (right_calls _ hsz _).mono ?_⟩
        rintro e σ1 ⟨rfl, rfl⟩
        simp only [go_sem, hr]
        refine ⟨⟨by omega, by omega, fun y hy => (plain_sD _ y hy).1⟩, ?_⟩
        simp only [htk]
        refine ⟨_, Tryz.call50, (contains_str (ws.take i) _ _ (by rw [List.length_take]; omega)).mono ?_⟩
        rintro e σ1 ⟨rfl, rfl⟩
        simp only [go_sem, ha]
        refine ⟨_, Tryz.call81, (need_calls false _).mono ?_⟩
        rintro e σ1 ⟨rfl, rfl⟩
        simp only [go_sem]
        refine Pan.of hC Tryz.func105 ?_
        rw [show chkO ws ⟨#[]⟩ = none from if_neg fun h => by have := h.1 i hlt; rw [hok, hr, ha] at this; cases this]
        exact ⟨rfl, SLe.refl _⟩
      · refine Gs.rg [0, 3, 5, 6, 33, 34, 35] fun K hK => ?_; simp (maxSteps:=9^7) only [go_sem, htk]
        refine ⟨_, Tryz.call113, (right_calls _ hsz _).mono ?_⟩
        rintro e σ1 ⟨rfl, rfl⟩
        simp only [go_sem, hr]
        refine ⟨⟨by omega, by omega, fun y hy => (plain_sD _ y hy).1⟩, ?_⟩
        simp only [htk]
        refine ⟨_, Tryz.call50, (contains_str (ws.take i) _ _ (by rw [List.length_take]; omega)).mono ?_⟩
        rintro e σ1 ⟨rfl, rfl⟩
        simp only [go_sem, ha]
        refine ⟨_, Tryz.call81, (need_calls true _).mono ?_⟩
        rintro e σ1 ⟨rfl, rfl⟩
        simp only [go_sem]
        refine hK _ _ ?_; clear hK K
        refine Gs.ib ?_
        refine Gs.rg [0, 3, 33, 34, 35] fun K hK => ?_; simp (maxSteps:=9^7) only [go_sem]
        refine hK _ _ ?_; clear hK K
        refine Gs.rebase [0, 3, 33, 34, 35] ?_
        simp only [go_sem]
        rw [wrap_succ i (by omega)]
        exact ih (i + 1) _ _ ⟨⟨by omega, fun j hj => (by rcases Nat.lt_or_ge j i with h | h; (· exact hall j h); rw [show j = i by omega, hok, hr, ha]; rfl)⟩, rfl, rfl⟩ (by omega)
    · have hie : i = ws.length := by simp at h36; omega
      subst hie
      refine Gs.exit rfl ?_
      refine Gs.sq ?_
      by_cases hz : 0 < ws.length
      · have hzd : decide ((ws.length : Int) > 0) = true := decide_eq_true (by omega)
        refine Gs.rg [0, 3] fun K hK => ?_; simp (maxSteps:=9^7) only [go_sem, hll]
        simp only [hzd]
        refine ⟨_, Tryz.call81, (need_calls true _).mono ?_⟩
        rintro e σ1 ⟨rfl, rfl⟩
        simp only [go_sem]
        refine hK _ _ ?_; clear hK K
        refine Gs.sq (Gs.rg [0, 3] fun K hK => ?_); simp (maxSteps:=9^7) only [go_sem]
        refine hK _ _ ?_; clear hK K
        refine Gs.ret hC Tryz.func105 (by simp [go_sem]) ?_
        simp only [go_sem]
        rw [show chkO ws ⟨#[]⟩ = some (ws, ⟨#[]⟩) from if_pos ⟨hall, hz⟩]
        exact ⟨rfl, rfl⟩
      · have hzd : decide ((ws.length : Int) > 0) = false := decide_eq_false (by omega)
        refine Gs.rg [0, 3] fun K hK => ?_; simp (maxSteps:=9^7) only [go_sem, hll]
        simp only [hzd]
        refine ⟨_, Tryz.call81, (need_calls false _).mono ?_⟩
        rintro e σ1 ⟨rfl, rfl⟩
        simp only [go_sem]
        refine Pan.of hC Tryz.func105 ?_
        rw [show chkO ws ⟨#[]⟩ = none from if_neg fun h => hz h.2]
        exact ⟨rfl, SLe.refl _⟩
  | some k =>
    have hi : idxI (fun s : ByteArray => (⟨#[58]⟩ : ByteArray).toList == s.toList) ws = (k : Int) := by unfold idxI; rw [hk]
    have hkl : k < ws.length := (List.findIdx?_eq_some_iff_getElem.1 hk).1
    have hk0 : decide ((k : Int) ≥ 0) = true := decide_eq_true (by omega)
    obtain ⟨dep, hdep⟩ : ∃ dep, ws.getD (k + 1) ⟨#[]⟩ = dep := ⟨_, rfl⟩
    obtain ⟨W, hW⟩ : ∃ W, ws.take k = W := ⟨_, rfl⟩
    have ho : outsM ws = if k + 2 = ws.length ∧ rightM (bL dep) = true then chkO W dep else none := by unfold outsM; rw [hk, ← hdep, ← hW]
    have hWl : (W.map sD).length = W.length := List.length_map ..
    have hWk : W.length = k := by rw [← hW, List.length_take]; omega
    have hWB : ∀ s ∈ W, s.size < 2 ^ 40 := fun s hs => hB s (List.mem_of_mem_take (by rw [hW]; exact hs))
    have hw2 : IntKind.i64.wrap ((ws.length : Int) - 2) = (ws.length : Int) - 2 := wrap_in _ (by omega) (by omega)
    have hw1 : IntKind.i64.wrap ((k : Int) + 1) = ((k + 1 : Nat) : Int) := wrap_succ k (by omega)
    by_cases h2 : k + 2 = ws.length
    · have hq : ((k : Int) == (ws.length : Int) - 2) = true := by rw [beq_iff_eq]; omega
      have hg := getD_map_lt sD ws (k + 1) (by omega)
      have hde : ws[k + 1]'(by omega) = dep := by rw [← hdep, List.getD_eq_getElem?_getD, List.getElem?_eq_getElem (by omega)]; rfl
      rw [sD, hde] at hg
      have hdB : dep.size < 2 ^ 40 := by rw [← hde]; exact hB _ (List.getElem_mem _)
      have hi0 : (0 : Int) ≤ ((k + 1 : Nat) : Int) := by omega
      have hi1 : ((k + 1 : Nat) : Int) < (ws.length : Int) := by omega
      have htW : (ws.map sD).take k = W.map sD := by rw [← hW, List.map_take]
      cases hr : rightM (bL dep) with
      | false =>
        have hn : outsM ws = none := by rw [ho]; exact if_neg fun h => by rw [hr] at h; cases h.2
        rw [hn] at hC
        refine Gs.sq (Gs.rg [0] fun K hK => ?_); simp (maxSteps:=9^7) only [go_sem]
        refine hK _ _ ?_; clear hK K
        refine Gs.sq (Gs.rg [0, 3] fun K hK => ?_); simp (maxSteps:=9^7) only [go_sem]
        refine ⟨_, Tryz.call89, (index_str ws ⟨#[58]⟩ _ hl).mono ?_⟩
        rintro e σ1 ⟨rfl, rfl⟩
        simp only [go_sem, hi]
        refine hK _ _ ?_; clear hK K
        refine Gs.sq (Gs.sq ?_)
        refine Gs.rg [0, 3, 4] fun K hK => ?_; simp (maxSteps:=9^7) only [go_sem, hi, hk0]
        refine hK _ _ ?_; clear hK K
        refine Gs.condT rfl ?_
        refine Gs.sq (Gs.rg [0, 4] fun K hK => ?_); simp (maxSteps:=9^7) only [go_sem, hll, hw2, hq, hw1, hg, hi0, hi1]
        refine ⟨_, Tryz.call113, (right_calls dep hdB _).mono ?_⟩
        rintro e σ1 ⟨rfl, rfl⟩
        simp only [go_sem, hr]
        refine ⟨_, Tryz.call81, (need_calls false _).mono ?_⟩
        rintro e σ1 ⟨rfl, rfl⟩
        simp only [go_sem]
        exact Pan.of hC Tryz.func105 ⟨rfl, SLe.refl _⟩
      | true =>
        have hn : outsM ws = chkO W dep := by rw [ho]; exact if_pos ⟨h2, hr⟩
        rw [hn] at hC
        refine Gs.sq (Gs.rg [0] fun K hK => ?_); simp (maxSteps:=9^7) only [go_sem]
        refine hK _ _ ?_; clear hK K
        refine Gs.sq (Gs.rg [0, 3] fun K hK => ?_); simp (maxSteps:=9^7) only [go_sem]
        refine ⟨_, Tryz.call89, (index_str ws ⟨#[58]⟩ _ hl).mono ?_⟩
        rintro e σ1 ⟨rfl, rfl⟩
        simp only [go_sem, hi]
        refine hK _ _ ?_; clear hK K
        refine Gs.sq (Gs.sq ?_)
        refine Gs.rg [0, 3, 4] fun K hK => ?_; simp (maxSteps:=9^7) only [go_sem, hi, hk0]
        refine hK _ _ ?_; clear hK K
        refine Gs.condT rfl ?_
        refine Gs.sq (Gs.rg [0, 4] fun K hK => ?_); simp (maxSteps:=9^7) only [go_sem, hll, hw2, hq, hw1, hg, hi0, hi1]
        refine ⟨_, Tryz.call113, (right_calls dep hdB _).mono ?_⟩
        rintro e σ1 ⟨rfl, rfl⟩
        simp only [go_sem, hr]
        refine ⟨_, Tryz.call81, (need_calls true _).mono ?_⟩
        rintro e σ1 ⟨rfl, rfl⟩
        simp only [go_sem]
        refine hK _ _ ?_; clear hK K
        refine Gs.draw [0, 4] [] [] [] [(0, true), (1, true), (2, true), (3, true), (4, true), (5, true), (6, true), (7, true), (8, true), (9, true)] (by kernel_rfl) (by decide) (by kernel_rfl) fun K hK => ?_; simp (maxSteps:=9^7) only [go_sem, hll, hw1, hg, hi0, hi1, htW]
        refine ⟨⟨by omega, by omega, fun y hy => (plain_sD _ y hy).1⟩, ?_⟩
        refine hK _ _ ?_; clear hK K
        refine Gs.sq (Gs.sq ?_)
        refine Gs.rg [0, 3] fun K hK => ?_; simp (maxSteps:=9^7) only [go_sem, hWl]
        refine hK _ _ ?_; clear hK K
        refine Gs.bk ?_
        refine Gs.rebase [0, 3, 33, 34, 35] ?_
        simp only [go_sem]
        refine Gs.while (fun (i : Nat) env' σ'' => (i ≤ W.length ∧ ∀ j < i, okAt W j = true) ∧ env' = [(0, .slc (W.map sD)), (3, .v (.string dep)), (33, .slc (W.map sD)), (34, .v (.int .i64 (W.length : Int))), (35, .v (.int .i64 (i : Int)))] ∧ σ1 = σ'') (fun (i : Nat) => W.length - i) 0 ⟨⟨Nat.zero_le _, fun j hj => absurd hj (by omega)⟩, rfl, rfl⟩ ?_
        rintro i env' σ'' ⟨⟨hi2, hall⟩, rfl, rfl⟩ ih
        have ih1 := ih
        refine Gs.sq (Gs.rg [0, 3, 33, 34, 35] fun K hK => ?_); simp (maxSteps:=9^7) only [go_sem]
        refine hK _ _ ?_; clear hK K
        refine Gs.sq ?_
        refine Gs.cond rfl (fun h36 => ?_) (fun h36 => ?_)
        · have hlt : i < W.length := by simpa using h36
          have hg := getD_map_lt sD W i hlt
          rw [sD] at hg
          have hi0 : (0 : Int) ≤ (i : Int) := by omega
          have hi1 : (i : Int) < (W.length : Int) := by omega
          have hsz := hWB _ (List.getElem_mem hlt)
          have hok : okAt W i = (rightM (bL W[i]) && !((W.take i).any fun s => W[i].toList == s.toList)) := by unfold okAt; rw [List.getElem?_eq_getElem hlt]
          have htk : (W.map sD).take i = (W.take i).map sD := (List.map_take ..).symm
          refine Gs.sk ?_
          refine Gs.sq ?_
          refine Gs.bk ?_
          refine Gs.sq (Gs.rg [0, 3, 33, 34, 35] fun K hK => ?_); simp (maxSteps:=9^7) only [go_sem, hWl, hg, hi0, hi1]
          refine hK _ _ ?_; clear hK K
          rcases (by cases rightM (bL W[i]) <;> cases ((W.take i).any fun s => W[i].toList == s.toList) <;> simp : rightM (bL W[i]) = false ∨ (rightM (bL W[i]) = true ∧ ((W.take i).any fun s => W[i].toList == s.toList) = true) ∨ (rightM (bL W[i]) = true ∧ ((W.take i).any fun s => W[i].toList == s.toList) = false)) with hr | ⟨hr, ha⟩ | ⟨hr, ha⟩
          · refine Gs.rg [0, 3, 5, 6, 33, 34, 35] fun K hK => ?_; simp (maxSteps:=9^7) only [go_sem, htk]
            refine ⟨_, Tryz.call113, (right_calls _ hsz _).mono ?_⟩
            rintro e σ1 ⟨rfl, rfl⟩
            simp only [go_sem, hr]
            refine ⟨_, Tryz.call81, (need_calls false _).mono ?_⟩
            rintro e σ1 ⟨rfl, rfl⟩
            simp only [go_sem]
            refine Pan.of hC Tryz.func105 ?_
            rw [show chkO W (dep) = none from if_neg fun h => by have := h.1 i hlt; rw [hok, hr] at this; cases this]
            exact ⟨rfl, SLe.refl _⟩
          · refine Gs.rg [0, 3, 5, 6, 33, 34, 35] fun K hK => ?_; simp (maxSteps:=9^7) only [go_sem, htk]
            refine ⟨_, Tryz.call113, (right_calls _ hsz _).mono ?_⟩
            rintro e σ1 ⟨rfl, rfl⟩
            simp only [go_sem, hr]
            refine ⟨⟨by omega, by omega, fun y hy => (plain_sD _ y hy).1⟩, ?_⟩
            simp only [htk]
            refine ⟨_, Tryz.call50, (contains_str (W.take i) _ _ (by rw [List.length_take]; omega)).mono ?_⟩
            rintro e σ1 ⟨rfl, rfl⟩
            simp only [go_sem, ha]
            refine ⟨_, Tryz.call81, (need_calls false _).mono ?_⟩
            rintro e σ1 ⟨rfl, rfl⟩
            simp only [go_sem]
            refine Pan.of hC Tryz.func105 ?_
            rw [show chkO W (dep) = none from if_neg fun h => by have := h.1 i hlt; rw [hok, hr, ha] at this; cases this]
            exact ⟨rfl, SLe.refl _⟩
          · refine Gs.rg [0, 3, 5, 6, 33, 34, 35] fun K hK => ?_; simp (maxSteps:=9^7) only [go_sem, htk]
            refine ⟨_, Tryz.call113, (right_calls _ hsz _).mono ?_⟩
            rintro e σ1 ⟨rfl, rfl⟩
            simp only [go_sem, hr]
            refine ⟨⟨by omega, by omega, fun y hy => (plain_sD _ y hy).1⟩, ?_⟩
            simp only [htk]
            refine ⟨_, Tryz.call50, (contains_str (W.take i) _ _ (by rw [List.length_take]; omega)).mono ?_⟩
            rintro e σ1 ⟨rfl, rfl⟩
            simp only [go_sem, ha]
            refine ⟨_, Tryz.call81, (need_calls true _).mono ?_⟩
            rintro e σ1 ⟨rfl, rfl⟩
            simp only [go_sem]
            refine hK _ _ ?_; clear hK K
            refine Gs.ib ?_
            refine Gs.rg [0, 3, 33, 34, 35] fun K hK => ?_; simp (maxSteps:=9^7) only [go_sem]
            refine hK _ _ ?_; clear hK K
            refine Gs.rebase [0, 3, 33, 34, 35] ?_
            simp only [go_sem]
            rw [wrap_succ i (by omega)]
            exact ih (i + 1) _ _ ⟨⟨by omega, fun j hj => (by rcases Nat.lt_or_ge j i with h | h; (· exact hall j h); rw [show j = i by omega, hok, hr, ha]; rfl)⟩, rfl, rfl⟩ (by omega)
        · have hie : i = W.length := by simp at h36; omega
          subst hie
          refine Gs.exit rfl ?_
          refine Gs.sq ?_
          by_cases hz : 0 < W.length
          · have hzd : decide ((W.length : Int) > 0) = true := decide_eq_true (by omega)
            refine Gs.rg [0, 3] fun K hK => ?_; simp (maxSteps:=9^7) only [go_sem, hWl]
            simp only [hzd]
            refine ⟨_, Tryz.call81, (need_calls true _).mono ?_⟩
            rintro e σ1 ⟨rfl, rfl⟩
            simp only [go_sem]
            refine hK _ _ ?_; clear hK K
            refine Gs.sq (Gs.rg [0, 3] fun K hK => ?_); simp (maxSteps:=9^7) only [go_sem]
            refine hK _ _ ?_; clear hK K
            refine Gs.ret hC Tryz.func105 (by simp [go_sem]) ?_
            simp only [go_sem]
            rw [show chkO W (dep) = some (W, dep) from if_pos ⟨hall, hz⟩]
            exact ⟨rfl, rfl⟩
          · have hzd : decide ((W.length : Int) > 0) = false := decide_eq_false (by omega)
            refine Gs.rg [0, 3] fun K hK => ?_; simp (maxSteps:=9^7) only [go_sem, hWl]
            simp only [hzd]
            refine ⟨_, Tryz.call81, (need_calls false _).mono ?_⟩
            rintro e σ1 ⟨rfl, rfl⟩
            simp only [go_sem]
            refine Pan.of hC Tryz.func105 ?_
            rw [show chkO W (dep) = none from if_neg fun h => hz h.2]
            exact ⟨rfl, SLe.refl _⟩
    · have hq : ((k : Int) == (ws.length : Int) - 2) = false := by rw [beq_eq_false_iff_ne]; omega
      have hn : outsM ws = none := by rw [ho]; exact if_neg fun h => h2 h.1
      rw [hn] at hC
      refine Gs.sq (Gs.rg [0] fun K hK => ?_); simp (maxSteps:=9^7) only [go_sem]
      refine hK _ _ ?_; clear hK K
      refine Gs.sq (Gs.rg [0, 3] fun K hK => ?_); simp (maxSteps:=9^7) only [go_sem]
      refine ⟨_, Tryz.call89, (index_str ws ⟨#[58]⟩ _ hl).mono ?_⟩
      rintro e σ1 ⟨rfl, rfl⟩
      simp only [go_sem, hi]
      refine hK _ _ ?_; clear hK K
      refine Gs.sq (Gs.sq ?_)
      refine Gs.rg [0, 3, 4] fun K hK => ?_; simp (maxSteps:=9^7) only [go_sem, hi, hk0]
      refine hK _ _ ?_; clear hK K
      refine Gs.condT rfl ?_
      refine Gs.sq (Gs.rg [0, 4] fun K hK => ?_); simp (maxSteps:=9^7) only [go_sem, hll, hw2, hq]
      refine ⟨_, Tryz.call81, (need_calls false _).mono ?_⟩
      rintro e σ1 ⟨rfl, rfl⟩
      simp only [go_sem]
      exact Pan.of hC Tryz.func105 ⟨rfl, SLe.refl _⟩
theorem fieldsS_calls (s : ByteArray) (hs : s.size ≤ 4294967296) (σ : Store) : AC Tryz.prog 103 [.v (.string s), .clo (.func 104) [] []] σ (fun e σ' => e = .ret (.slc ((wordsM s).map sD)) ∧ σ' = σ) :=
  AC.pubOwn ((fields_calls s hs []).mono fun e σ' ⟨o, hg, he, hs⟩ => ⟨o, hg, he, by rw [hs]⟩) σ
def isFunc : Option TypeDesc → Bool
  | some (.func _ _ _) => true
  | _ => false
structure Shp where
  verb : ByteArray
  args : List ByteArray
  once : Bool
  outs : List ByteArray
  dep : ByteArray
def Shp.d (s : Shp) : D := .tup [.v (.string s.verb), .slc (s.args.map sD), .v (.bool s.once), .slc (s.outs.map sD), .v (.string s.dep)]
theorem equalIn_ff {P : Program} {T : TypeId} (h : isFunc (P.underlying T) = true) (d : Nat) : purely P (Op.equalIn (d + 1) T .nilFunc .nilFunc) = some true := by
  have : ∃ a b c, P.underlying T = some (.func a b c) := by
    unfold isFunc at h
    split at h
    · exact ⟨_, _, _, by assumption⟩
    · cases h
  obtain ⟨a, b, c, hu⟩ := this
  simp only [Op.equalIn, purely_bind, purely_underlying, hu, Option.bind_some, purely_pure]
theorem equal_ff {P : Program} {T : TypeId} (h : isFunc (P.underlying T) = true) : purely P (Op.equal T .nilFunc .nilFunc) = some true := equalIn_ff h 9999
theorem bin_ff (P : Program) (T : TypeId) (x y : Operand) (h : isFunc (P.underlying T) = true) : aBin P .neq T x y (.v .nilFunc) (.v .nilFunc) = .val True (.v (.bool false)) := by
  simp [aBin, ifcNil, aBin0, toV, scal, eqGuard, binOp, okV, ofV, purely_pure, purely_bind, purely_map, equal_ff h]
theorem bin_ff131 (x y : Operand) : aBin Tryz.prog .neq 131 x y (.v .nilFunc) (.v .nilFunc) = .val True (.v (.bool false)) := bin_ff _ _ _ _ (by kernel_rfl)
theorem verb_some (verb : List UInt8) (hv : isVerb verb = true) : ∃ g, mfind (.string (lB verb)) verbsM = some (.clo (.func g) [] []) := by
  have key : verb = [99, 97, 116] ∨ verb = [114, 101, 118] ∨ verb = [115, 117, 109] ∨ verb = [112, 117, 116] ∨ verb = [105, 110, 99] ∨ verb = [102, 97, 105, 108] := by simpa [isVerb] using hv
  rcases key with rfl | rfl | rfl | rfl | rfl | rfl
  · exact ⟨_, (by kernel_rfl : mfind (.string (lB [99, 97, 116])) verbsM = some (.clo (.func 106) [] []))⟩
  · exact ⟨_, (by kernel_rfl : mfind (.string (lB [114, 101, 118])) verbsM = some (.clo (.func 107) [] []))⟩
  · exact ⟨_, (by kernel_rfl : mfind (.string (lB [115, 117, 109])) verbsM = some (.clo (.func 108) [] []))⟩
  · exact ⟨_, (by kernel_rfl : mfind (.string (lB [112, 117, 116])) verbsM = some (.clo (.func 109) [] []))⟩
  · exact ⟨_, (by kernel_rfl : mfind (.string (lB [105, 110, 99])) verbsM = some (.clo (.func 110) [] []))⟩
  · exact ⟨_, (by kernel_rfl : mfind (.string (lB [102, 97, 105, 108])) verbsM = some (.clo (.func 111) [] []))⟩
theorem verbs_like (s : ByteArray) : keyLike .string (.string s) (.string s) = true ∧ ∀ e ∈ verbsM, keyLike .string (.string s) e.1 = true := ⟨rfl, allS_like verbsM_all s⟩
def onceB (ws : List ByteArray) : Bool := match ws with | w :: _ => w.toList == (⟨#[111, 110, 99, 101]⟩ : ByteArray).toList | [] => false
def shapeW (once : Bool) (ws : List ByteArray) : Option Shp :=
  match ws.findIdx? (fun s => (⟨#[62]⟩ : ByteArray).toList == s.toList) with
  | some (k + 1) => if isVerb (bL (ws.getD 0 ⟨#[]⟩)) = true then
      match outsM (ws.drop (k + 2)) with
      | some (outs, dep) => if (!(dep.toList == (⟨#[]⟩ : ByteArray).toList)) = ((ws.getD 0 ⟨#[]⟩).toList == (⟨#[105, 110, 99]⟩ : ByteArray).toList) then some ⟨ws.getD 0 ⟨#[]⟩, (ws.take (k + 1)).drop 1, once, outs, dep⟩ else none
      | none => none
    else none
  | _ => none
def shapeM (s : ByteArray) : Option Shp := if onceB (wordsM s) = true then shapeW true ((wordsM s).drop 1) else shapeW false (wordsM s)
set_option maxHeartbeats 4000000 in
theorem shape_calls (s : ByteArray) (hs : s.size ≤ 4294967296) (hl : (wordsM s).length < 2 ^ 40) (hB : ∀ w ∈ wordsM s, w.size < 2 ^ 40) (σ : Store) :
    AC Tryz.prog 79 [.v (.string s)] σ (AR (shapeM s) (fun x e σ' => e = .ret x.d ∧ σ' = σ) σ) := by
  have hll : ((wordsM s).map sD).length = (wordsM s).length := List.length_map ..
  refine AC.of_body Tryz.func79 rfl Tryz.ntmps79 (by simp) fun C hC => ?_
  refine Gs.sq (Gs.rg [0] fun K hK => ?_); simp (maxSteps:=9^7) only [go_sem]
  refine hK _ _ ?_; clear hK K
  refine Gs.sq (Gs.rg [0, 4] fun K hK => ?_); simp (maxSteps:=9^7) only [go_sem]
  refine ⟨_, Tryz.call103, (fieldsS_calls s hs _).mono ?_⟩
  rintro e σ1 ⟨rfl, rfl⟩
  simp only [go_sem]
  refine hK _ _ ?_; clear hK K
  refine Gs.sq (Gs.sq ?_)
  rcases hw : wordsM s with _ | ⟨w, ws⟩
  · have hsh : shapeM s = none := by unfold shapeM; rw [hw]; rfl
    refine Gs.rg [4, 7] fun K hK => ?_; simp (maxSteps:=9^7) only [go_sem]
    refine hK _ _ ?_; clear hK K
    refine Gs.condF rfl ?_
    refine Gs.sk ?_
    refine Gs.sq (Gs.rg [4, 7] fun K hK => ?_); simp (maxSteps:=9^7) only [go_sem]
    refine ⟨_, Tryz.call89, (index_str [] ⟨#[62]⟩ _ (by simp)).mono ?_⟩
    rintro e σ1 ⟨rfl, rfl⟩
    simp only [go_sem]
    refine hK _ _ ?_; clear hK K
    refine Gs.sq ?_
    refine Gs.draw [4, 7, 8] [] [] [] [(0, true), (1, true), (2, true), (4, true), (5, true), (6, true), (3, false), (7, true), (8, true), (9, true), (10, false)] (by kernel_rfl) (by decide) (by kernel_rfl) fun K hK => ?_; simp (maxSteps:=9^7) only [go_sem]
    refine ⟨_, Tryz.call81, (need_calls false _).mono ?_⟩
    rintro e σ1 ⟨rfl, rfl⟩
    simp only [go_sem]
    refine Pan.of hC Tryz.func79 ?_
    rw [hsh]
    exact ⟨rfl, SLe.refl _⟩
  · have hln : decide (((ws.map sD).length + 1 : Nat) > (0 : Int)) = true := decide_eq_true (by omega)
    have hsw : (sD w).cells = [.v (.string w)] := rfl
    refine Gs.rg [4, 7] fun K hK => ?_; simp (maxSteps:=9^7) only [go_sem, List.map_cons, List.length_cons, hln, hsw]
    refine ⟨by omega, ?_⟩
    refine hK _ _ ?_; clear hK K
    refine Gs.join (fun env' σ' => ∃ once ws, env' = [(4, .v (.bool once)), (7, .slc (ws.map sD))] ∧ σ' = σ1 ∧ shapeM s = shapeW once ws ∧ ws.length < 2 ^ 40 ∧ ∀ w ∈ ws, w.size < 2 ^ 40) (fun k1 hk1 => ?_) ?_
    · refine Gs.cond rfl (fun h19 => ?_) (fun h19 => ?_)
      · refine Gs.draw [7] [] [] [] [(0, true), (1, true), (2, true), (3, true)] (by kernel_rfl) (by decide) (by kernel_rfl) fun K hK => ?_; simp (maxSteps:=9^7) only [go_sem]
        refine ⟨⟨by omega, by omega, fun y hy => (plain_sD (w :: ws) y (List.mem_cons.2 hy)).1⟩, ?_⟩
        refine hK _ _ ?_; clear hK K
        refine Gs.rebase [4, 7] ?_
        simp only [go_sem]
        have ho : onceB (w :: ws) = true := h19
        refine hk1 _ _ ⟨true, ws, ?_, rfl, ?_, ?_, fun x hx => hB x (by rw [hw]; simp [hx])⟩
        · rw [List.take_of_length_le (by simp)]
        · unfold shapeM; rw [hw, if_pos ho]; rfl
        · rw [hw] at hl; simp at hl; omega
      · refine Gs.sk ?_
        refine Gs.rebase [4, 7] ?_
        simp only [go_sem]
        have ho : ¬ onceB (w :: ws) = true := by
          intro h
          have h2 : (w.toList == (⟨#[111, 110, 99, 101]⟩ : ByteArray).toList) = false := h19
          change (w.toList == (⟨#[111, 110, 99, 101]⟩ : ByteArray).toList) = true at h
          rw [h2] at h; cases h
        refine hk1 _ _ ⟨false, w :: ws, rfl, rfl, ?_, ?_, fun x hx => hB x (by rw [hw]; exact hx)⟩
        · unfold shapeM; rw [hw, if_neg ho]
        · rw [hw] at hl; exact hl
    rintro env' σ' ⟨once, W, rfl, rfl, hsh, hWl, hWB⟩
    refine Gs.sq ?_
    have hWll : (W.map sD).length = W.length := List.length_map ..
    refine Gs.rg [4, 7] fun K hK => ?_; simp (maxSteps:=9^7) only [go_sem]
    refine ⟨_, Tryz.call89, (index_str W ⟨#[62]⟩ _ hWl).mono ?_⟩
    rintro e σ1 ⟨rfl, rfl⟩
    simp only [go_sem]
    refine hK _ _ ?_; clear hK K
    refine Gs.sq ?_
    rcases (show (W.findIdx? (fun s => (⟨#[62]⟩ : ByteArray).toList == s.toList) = none) ∨ (W.findIdx? (fun s => (⟨#[62]⟩ : ByteArray).toList == s.toList) = some 0) ∨ (∃ k, W.findIdx? (fun s => (⟨#[62]⟩ : ByteArray).toList == s.toList) = some (k + 1) ∧ isVerb (bL (W.getD 0 ⟨#[]⟩)) = false) ∨ (∃ k, W.findIdx? (fun s => (⟨#[62]⟩ : ByteArray).toList == s.toList) = some (k + 1) ∧ isVerb (bL (W.getD 0 ⟨#[]⟩)) = true) from (by
      cases hk : W.findIdx? (fun s => (⟨#[62]⟩ : ByteArray).toList == s.toList) with
      | none => exact .inl rfl
      | some k =>
        cases k with
        | zero => exact .inr (.inl rfl)
        | succ k =>
          cases hv : isVerb (bL (W.getD 0 ⟨#[]⟩)) with
          | false => exact .inr (.inr (.inl ⟨k, rfl, rfl⟩))
          | true => exact .inr (.inr (.inr ⟨k, rfl, rfl⟩)))) with hk | hk | ⟨k, hk, hv⟩ | ⟨k, hk, hv⟩
    · have hi : idxI (fun s : ByteArray => (⟨#[62]⟩ : ByteArray).toList == s.toList) W = -1 := by unfold idxI; rw [hk]
      have hsn : shapeM s = none := by rw [hsh]; unfold shapeW; rw [hk]
      refine Gs.draw [4, 7, 8] [] [] [] [(0, true), (1, true), (2, true), (4, true), (5, true), (6, true), (3, false), (7, true), (8, true), (9, true), (10, false)] (by kernel_rfl) (by decide) (by kernel_rfl) fun K hK => ?_; simp (maxSteps:=9^7) only [go_sem, hi]
      refine ⟨_, Tryz.call81, (need_calls false _).mono ?_⟩
      rintro e σ1 ⟨rfl, rfl⟩
      simp only [go_sem]
      refine Pan.of hC Tryz.func79 ?_
      rw [hsn]
      exact ⟨rfl, SLe.refl _⟩
    · have hi : idxI (fun s : ByteArray => (⟨#[62]⟩ : ByteArray).toList == s.toList) W = 0 := by unfold idxI; rw [hk]; rfl
      have hsn : shapeM s = none := by rw [hsh]; unfold shapeW; rw [hk]
      refine Gs.draw [4, 7, 8] [] [] [] [(0, true), (1, true), (2, true), (4, true), (5, true), (6, true), (3, false), (7, true), (8, true), (9, true), (10, false)] (by kernel_rfl) (by decide) (by kernel_rfl) fun K hK => ?_; simp (maxSteps:=9^7) only [go_sem, hi]
      refine ⟨_, Tryz.call81, (need_calls false _).mono ?_⟩
      rintro e σ1 ⟨rfl, rfl⟩
      simp only [go_sem]
      refine Pan.of hC Tryz.func79 ?_
      rw [hsn]
      exact ⟨rfl, SLe.refl _⟩
    · have hi : idxI (fun s : ByteArray => (⟨#[62]⟩ : ByteArray).toList == s.toList) W = ((k + 1 : Nat) : Int) := by unfold idxI; rw [hk]
      have hkl : k + 1 < W.length := (List.findIdx?_eq_some_iff_getElem.1 hk).1
      have hk1 : decide (((k + 1 : Nat) : Int) ≥ 1) = true := decide_eq_true (by omega)
      have hsn : shapeM s = none := by rw [hsh]; unfold shapeW; rw [hk]; simp only [hv]; rfl
      have hg := getD_map_lt sD W 0 (by omega)
      have hi0 : (0 : Int) < (W.length : Int) := by omega
      have hv0 : W[0]'(by omega) = W.getD 0 ⟨#[]⟩ := by rw [List.getD_eq_getElem?_getD, List.getElem?_eq_getElem (by omega)]; rfl
      rw [sD, hv0] at hg
      have hmf := verb_none (bL (W.getD 0 ⟨#[]⟩)) hv
      rw [lB_bL] at hmf
      refine Gs.draw [4, 7, 8] [] [] [] [(0, true), (1, true), (2, true), (4, true), (5, true), (6, true), (3, false), (7, false), (8, true), (9, true), (10, false)] (by kernel_rfl) (by decide) (by kernel_rfl) fun K hK => ?_; simp (maxSteps:=9^7) only [go_sem, hi, hk1, hWll, hg, hi0, hmf]
      refine ⟨_, Tryz.call80, (verbs_calls _).mono ?_⟩
      rintro e σ2 ⟨db, hdb, rfl, rfl⟩
      simp only [go_sem, hWll, hg, hi0, hmf, bin_ff131]
      refine ⟨verbs_like _, ?_⟩
      refine ⟨_, Tryz.call81, (need_calls false _).mono ?_⟩
      rintro e σ1 ⟨rfl, rfl⟩
      simp only [go_sem]
      refine Pan.of hC Tryz.func79 ?_
      rw [hsn]
      exact ⟨rfl, sle_push (SLe.refl _) hdb⟩
    · have hi : idxI (fun s : ByteArray => (⟨#[62]⟩ : ByteArray).toList == s.toList) W = ((k + 1 : Nat) : Int) := by unfold idxI; rw [hk]
      have hkl : k + 1 < W.length := (List.findIdx?_eq_some_iff_getElem.1 hk).1
      have hk1 : decide (((k + 1 : Nat) : Int) ≥ 1) = true := decide_eq_true (by omega)
      have hg := getD_map_lt sD W 0 (by omega)
      have hi0 : (0 : Int) < (W.length : Int) := by omega
      have hv0 : W[0]'(by omega) = W.getD 0 ⟨#[]⟩ := by rw [List.getD_eq_getElem?_getD, List.getElem?_eq_getElem (by omega)]; rfl
      rw [sD, hv0] at hg
      obtain ⟨g, hmf⟩ := verb_some (bL (W.getD 0 ⟨#[]⟩)) hv
      rw [lB_bL] at hmf
      refine Gs.draw [4, 7, 8] [] [] [] [(0, true), (1, true), (2, true), (4, true), (5, true), (6, true), (3, false), (7, false), (8, true), (9, true), (10, false)] (by kernel_rfl) (by decide) (by kernel_rfl) fun K hK => ?_; simp (maxSteps:=9^7) only [go_sem, hi, hk1, hWll, hg, hi0, hmf]
      refine ⟨_, Tryz.call80, (verbs_calls _).mono ?_⟩
      rintro e σ2 ⟨db, hdb, rfl, rfl⟩
      simp only [go_sem, hWll, hg, hi0, hmf]
      refine ⟨verbs_like _, ?_⟩
      refine ⟨_, Tryz.call81, (need_calls true _).mono ?_⟩
      rintro e σ1 ⟨rfl, rfl⟩
      simp only [go_sem]
      refine hK _ _ ?_; clear hK K
      refine Gs.le (ELe.refl _) (sle_push (SLe.refl _) hdb) ?_
      have hw2 : IntKind.i64.wrap (((k + 1 : Nat) : Int) + 1) = ((k + 2 : Nat) : Int) := wrap_succ (k + 1) (by omega)
      have htd : List.drop (k + 2) (W.map sD) = (W.drop (k + 2)).map sD := (List.map_drop ..).symm
      have htt : List.take W.length (W.map sD) = W.map sD := List.take_of_length_le (by simp)
      have hou := fun σ => outputs_calls (W.drop (k + 2)) (by rw [List.length_drop]; omega) (fun x hx => hWB x (List.mem_of_mem_drop hx)) σ
      refine Gs.sq ?_
      rcases ho : outsM (W.drop (k + 2)) with _ | ⟨outs, dep⟩
      · rw [ho] at hou
        refine Gs.rg [4, 7, 8] fun K hK => ?_; simp (maxSteps:=9^7) only [go_sem, hw2, htd, htt, hWll]
        refine ⟨⟨by omega, by omega, by omega, fun y hy => (plain_sD W y hy).1⟩, ?_⟩
        refine ⟨_, Tryz.call105, (hou _).mono ?_⟩
        rintro e σ3 ⟨rfl, hs3⟩
        simp only [go_sem]
        refine Pan.of hC Tryz.func79 ?_
        rw [show shapeM s = none by rw [hsh]; unfold shapeW; rw [hk]; simp only [hv, ho, if_true]]
        exact ⟨rfl, hs3⟩
      · rw [ho] at hou
        refine Gs.rg [4, 7, 8] fun K hK => ?_; simp (maxSteps:=9^7) only [go_sem, hw2, htd, htt, hWll]
        refine ⟨⟨by omega, by omega, by omega, fun y hy => (plain_sD W y hy).1⟩, ?_⟩
        refine ⟨_, Tryz.call105, (hou _).mono ?_⟩
        rintro e σ1 ⟨rfl, rfl⟩
        simp only [go_sem]
        refine hK _ _ ?_; clear hK K
        refine Gs.sq ?_
        by_cases hq : (!(dep.toList == (⟨#[]⟩ : ByteArray).toList)) = ((W.getD 0 ⟨#[]⟩).toList == (⟨#[105, 110, 99]⟩ : ByteArray).toList)
        · refine Gs.rg [4, 5, 6, 7, 8] fun K hK => ?_; simp (maxSteps:=9^7) only [go_sem, hWll, hg, hi0]
          simp only [hq, BEq.rfl]
          refine ⟨_, Tryz.call81, (need_calls true _).mono ?_⟩
          rintro e σ1 ⟨rfl, rfl⟩
          simp only [go_sem]
          refine hK _ _ ?_; clear hK K
          refine Gs.sq ?_
          refine Gs.draw [4, 5, 6, 7, 8] [] [] [] [(0, true), (1, true), (2, true), (3, true), (4, true), (5, true), (6, true), (7, true), (8, true), (9, true), (10, true), (11, true), (12, true), (13, true)] (by kernel_rfl) (by decide) (by kernel_rfl) fun K hK => ?_; simp (maxSteps:=9^7) only [go_sem, hWll, hg, hi0]
          have htr : List.drop 1 (List.take (k + 1) (W.map sD)) = ((W.take (k + 1)).drop 1).map sD := by rw [List.map_drop, List.map_take]
          refine ⟨⟨by omega, by omega, fun y hy => (plain_sD W y hy).1⟩, ?_⟩
          simp only [htr]
          refine hK _ _ ?_; clear hK K
          refine Gs.ret hC Tryz.func79 (by simp [go_sem]) ?_
          simp only [go_sem]
          rw [show shapeM s = some ⟨W.getD 0 ⟨#[]⟩, (W.take (k + 1)).drop 1, once, outs, dep⟩ by rw [hsh]; unfold shapeW; rw [hk]; simp only [hv, ho, if_true]; exact if_pos hq]
          exact ⟨rfl, rfl⟩
        · refine Gs.rg [4, 5, 6, 7, 8] fun K hK => ?_; simp (maxSteps:=9^7) only [go_sem, hWll, hg, hi0]
          have hq2 : ((!(dep.toList == (⟨#[]⟩ : ByteArray).toList)) == ((W.getD 0 ⟨#[]⟩).toList == (⟨#[105, 110, 99]⟩ : ByteArray).toList)) = false := by rw [beq_eq_false_iff_ne]; exact hq
          simp only [hq2]
          refine ⟨_, Tryz.call81, (need_calls false _).mono ?_⟩
          rintro e σ1 ⟨rfl, rfl⟩
          simp only [go_sem]
          refine Pan.of hC Tryz.func79 ?_
          rw [show shapeM s = none by rw [hsh]; unfold shapeW; rw [hk]; simp only [hv, ho, if_true]; exact if_neg hq]
          exact ⟨rfl, SLe.refl _⟩
end Go.Ab.S16
namespace Go.Ab.S16
open Go Go.Proofs
theorem guardD_pan (b2 : Nat) (σ : Store) (hb : sget b2 σ = some (.arr 1 [.v (.int .i64 0)])) {R : AMode → Store → Prop}
    (hR : ∀ σ', SLe (sset b2 (.arr 1 [.v (.int .i64 13)]) σ) σ' → R (.pan failD true) σ') : ADCalls Tryz.prog 102 [.ptr b2 1 0 0] (.pan failD false) σ R := by
  unfold failD at hR ⊢
  refine ADCalls.of_body Tryz.func102 rfl Tryz.ntmps102 (by simp) fun C hC => ?_
  refine Gs.sq ?_
  refine Gs.recoverPan (k1 := 4) (k2 := 1) hC rfl rfl rfl rfl rfl rfl (by simp [dstB, lkFree]) (by simp [dstB, lkFree]) fun C hC => ?_
  simp only [go_sem]
  repeat' (first | refine Gs.sq ?_ | refine Gs.sk ?_ | refine Gs.ib ?_ | refine Gs.bk ?_ | refine Gs.exit rfl ?_ | (refine Gs.rg [0, 1] fun K hK => ?_; simp (maxSteps:=9^7) only [go_sem]; refine hK _ _ ?_; clear hK K))
  refine Gs.condT rfl ?_
  repeat refine Gs.sq ?_
  refine Gs.rg [0, 1] fun K hK => ?_; simp (maxSteps:=9^7) only [go_sem, hb]
  intro bw hbw
  refine hK _ _ ?_; clear hK K
  repeat refine Gs.sq ?_
  repeat' (first | refine Gs.sq ?_ | refine Gs.sk ?_ | refine Gs.ib ?_ | refine Gs.bk ?_ | refine Gs.exit rfl ?_ | (refine Gs.rg [0, 1, 2, 3] fun K hK => ?_; simp (maxSteps:=9^7) only [go_sem]; refine hK _ _ ?_; clear hK K))
  refine Gs.condF rfl ?_
  refine Gs.sk ?_
  have hne : b2 ≠ bw := fun e => by subst e; rw [hbw] at hb; cases hb
  refine Gs.rg [0, 2] fun K hK => ?_; simp (maxSteps:=9^7) only [go_sem, hb, hne]
  refine hK _ _ ?_; clear hK K
  exact Gs.doneD hC Tryz.func102 rfl (hR _ (sle_push (SLe.refl _) (by rw [sget_sset, if_neg hne.symm]; exact hbw)))
theorem guardD_ret (b2 : Nat) (σ : Store) {R : AMode → Store → Prop} (hR : R .ret σ) : ADCalls Tryz.prog 102 [.ptr b2 1 0 0] .ret σ R := by
  refine ADCalls.of_body Tryz.func102 rfl Tryz.ntmps102 (by simp) fun C hC => ?_
  refine Gs.sq ?_
  refine Gs.recoverRet (k1 := 4) (k2 := 1) hC rfl rfl rfl rfl rfl rfl (by simp [dstB, lkFree]) (by simp [dstB, lkFree]) ?_
  simp only [go_sem]
  repeat' (first | refine Gs.sq ?_ | refine Gs.sk ?_ | refine Gs.ib ?_ | refine Gs.bk ?_ | refine Gs.exit rfl ?_ | (refine Gs.rg [0, 1] fun K hK => ?_; simp (maxSteps:=9^7) only [go_sem]; refine hK _ _ ?_; clear hK K))
  refine Gs.condF rfl ?_
  repeat' (first | refine Gs.sq ?_ | refine Gs.sk ?_ | refine Gs.ib ?_ | refine Gs.bk ?_ | refine Gs.exit rfl ?_ | (refine Gs.rg [0] fun K hK => ?_; simp (maxSteps:=9^7) only [go_sem]; refine hK _ _ ?_; clear hK K))
  exact Gs.doneD hC Tryz.func102 rfl hR
theorem guarded_calls (g : FuncId) (caps : List D) (σ : Store) {Rg R : AEnd → Store → Prop} (hcall : ∀ args w, (callFunc g args).run Tryz.prog w = .ok (.enter g args) w) (hg : AC Tryz.prog g caps σ Rg)
    (hR : ∀ e σ', Rg e σ' → (e = .ret (.tup []) ∧ R (.ret (.v (.int .i64 0))) σ') ∨ (e = .panic failD ∧ R (.ret (.v (.int .i64 13))) σ')) :
    AC Tryz.prog 77 [.clo (.func g) [] caps] σ R := by
  refine AC.forget (R := fun e σ'' => ∃ σ', SLe σ' σ'' ∧ R e σ') ?_ fun e σ' h => h
  refine AC.of_body Tryz.func77 rfl Tryz.ntmps77 (by simp) fun C hC => ?_
  refine Gs.sq (Gs.rg [0] fun K hK => ?_); simp (maxSteps:=9^7) only [go_sem]
  intro b2 hb2
  refine hK _ _ ?_; clear hK K
  refine Gs.sq ?_
  refine Gs.defer (L := [(2, .ptr b2 1 0 0)]) (k1 := 3) hC Tryz.call102 rfl rfl rfl rfl rfl rfl (by decide) rfl rfl (by simp [eget]) (by simp) fun C hC => ?_
  have hfr := hg.frame (σ := (b2, .arr 1 [.v (.int .i64 0)]) :: σ) (ρ := [(b2, .arr 1 [.v (.int .i64 0)])]) (sle_push (SLe.refl _) hb2) (SLe.cons (sget_self ..) (SLe.nil _)) (Apart.cons hb2 (Apart.nil _))
  refine Gs.sq (Gs.rg [0, 2] fun K hK => ?_); simp (maxSteps:=9^7) only [go_sem]
  refine ⟨g, hcall, ?_⟩
  simp only [go_sem]
  refine hfr.mono ?_
  rintro e σ2 ⟨σ1, hRg, hap, rfl⟩
  have hb1 : sget b2 σ1 = none := hap b2 (by simp [sget])
  have hb3 : sget b2 (σ1 ++ [(b2, .arr 1 [.v (.int .i64 0)])]) = some (.arr 1 [.v (.int .i64 0)]) := by rw [sget_append_none hb1, sget_self]
  have hsl1 : ∀ x, SLe σ1 (sset b2 x (σ1 ++ [(b2, .arr 1 [.v (.int .i64 0)])])) := fun x b o hb => by
    have hne : b ≠ b2 := fun e => by subst e; rw [hb1] at hb; cases hb
    rw [sget_sset, if_neg hne]; exact sget_append_some hb
  have hrow : ∀ n, sget b2 (sset b2 (.arr 1 [.v (.int .i64 n)]) (σ1 ++ [(b2, .arr 1 [.v (.int .i64 0)])])) = some (.arr 1 [.v (.int .i64 n)]) := fun n => by
    rw [sget_sset, if_pos rfl, hb3]; rfl
  rcases hR e σ1 hRg with ⟨rfl, hret⟩ | ⟨rfl, hret⟩
  · simp only [go_sem]
    refine hK _ _ ?_; clear hK K
    refine Gs.sq (Gs.rg [2] fun K hK => ?_); simp (maxSteps:=9^7) only [go_sem, hb3]
    refine hK _ _ ?_; clear hK K
    refine Gs.retL hC Tryz.func77 (guardD_ret b2 _ ?_)
    refine ⟨?_, ?_⟩
    · simp only [go_sem, hrow]
      simp [resPre, go_sem, hrow]
    · refine ⟨σ1, hsl1 _, ?_⟩
      simp only [go_sem, hrow]
      exact hret
  · simp only [go_sem]
    refine Pan.ofL hC Tryz.func77 (guardD_pan b2 _ hb3 fun σ' hle => ?_)
    have hrow2 := hle b2 _ (hrow 13)
    refine ⟨?_, ?_⟩
    · simp [resPre, go_sem, hrow2]
    · refine ⟨σ1, (hsl1 _).trans hle, ?_⟩
      simp only [go_sem, hrow2]
      exact hret
end Go.Ab.S16
namespace Go.Ab.S16
open Go Go.Proofs Go.RowKit
def cookR (x : Shp) (decl : List ByteArray) (files : List XFile) : Option XDish :=
  match runV x.args decl files (bL x.verb) with
  | none => none
  | some (b, found) => if b.length ≤ 65536 then some ⟨x.outs.map fun n => ⟨n, b⟩, x.once, x.dep, if (!(x.dep.toList == (⟨#[]⟩ : ByteArray).toList)) = true then lB (printT (x.outs.getD 0 ⟨#[]⟩) found ++ [10]) else ⟨#[]⟩⟩ else none
def cookM (cmd : ByteArray) (decl : List ByteArray) (files : List XFile) : Option XDish :=
  match shapeM cmd with
  | none => none
  | some x => cookR x decl files
def cS (bA bB bC bD : Nat) (cmd : ByteArray) (decl : List ByteArray) (files : List XFile) (v : D) : Store := [(bD, .arr 4 [v]), (bC, .arr 1 [.slc (files.map XFile.d)]), (bB, .arr 1 [.slc (decl.map sD)]), (bA, .arr 1 [.v (.string cmd)])]
structure CN (bA bB bC bD : Nat) : Prop where
  ab : bA ≠ bB
  ac : bA ≠ bC
  ad : bA ≠ bD
  bc : bB ≠ bC
  bd : bB ≠ bD
  cd : bC ≠ bD
section
variable {bA bB bC bD : Nat} {cmd : ByteArray} {decl : List ByteArray} {files : List XFile} {v w : D}
theorem cS_d : sget bD (cS bA bB bC bD cmd decl files v) = some (.arr 4 [v]) := sget_self ..
theorem cS_c (h : CN bA bB bC bD) : sget bC (cS bA bB bC bD cmd decl files v) = some (.arr 1 [.slc (files.map XFile.d)]) := by
  unfold cS
  rw [sget_cons, if_neg h.cd, sget_self]
theorem cS_b (h : CN bA bB bC bD) : sget bB (cS bA bB bC bD cmd decl files v) = some (.arr 1 [.slc (decl.map sD)]) := by
  unfold cS
  rw [sget_cons, if_neg h.bd, sget_cons, if_neg h.bc, sget_self]
theorem cS_a (h : CN bA bB bC bD) : sget bA (cS bA bB bC bD cmd decl files v) = some (.arr 1 [.v (.string cmd)]) := by
  unfold cS
  rw [sget_cons, if_neg h.ad, sget_cons, if_neg h.ac, sget_cons, if_neg h.ab, sget_self]
theorem cS_sd : sset bD (.arr 4 [w]) (cS bA bB bC bD cmd decl files v) = cS bA bB bC bD cmd decl files w := by
  unfold cS
  rw [sset_self]
theorem cS_dom {b : Nat} (h : sget b (cS bA bB bC bD cmd decl files v) = none) : sget b (cS bA bB bC bD cmd decl files w) = none := by
  unfold cS at *
  simp only [sget_cons] at *
  repeat' split at h
  all_goals first | cases h | skip
  simp_all
end
theorem outsM_right {ws outs : List ByteArray} {dep : ByteArray} (h : outsM ws = some (outs, dep)) : (∀ n ∈ outs, rightM (bL n) = true) ∧ 0 < outs.length := by
  have key : ∀ {ws outs : List ByteArray} {d dep : ByteArray}, chkO ws d = some (outs, dep) → (∀ n ∈ outs, rightM (bL n) = true) ∧ 0 < outs.length := fun {ws outs d dep} h => by
    unfold chkO at h
    split at h
    · rename_i hc
      cases h
      refine ⟨fun n hn => ?_, hc.2⟩
      obtain ⟨i, hi, rfl⟩ := List.getElem_of_mem hn
      have := hc.1 i hi
      unfold okAt at this
      rw [List.getElem?_eq_getElem hi] at this
      exact (Bool.and_eq_true _ _ ▸ this).1
    · cases h
  unfold outsM at h
  split at h
  · split at h
    · exact key h
    · cases h
  · exact key h
theorem shapeM_spec {cmd : ByteArray} {x : Shp} (h : shapeM cmd = some x) : isVerb (bL x.verb) = true ∧ (∀ n ∈ x.outs, rightM (bL n) = true) ∧ 0 < x.outs.length ∧ ((!(x.dep.toList == (⟨#[]⟩ : ByteArray).toList)) = (x.verb.toList == (⟨#[105, 110, 99]⟩ : ByteArray).toList)) := by
  have key : ∀ {o : Bool} {ws : List ByteArray}, shapeW o ws = some x → isVerb (bL x.verb) = true ∧ (∀ n ∈ x.outs, rightM (bL n) = true) ∧ 0 < x.outs.length ∧ ((!(x.dep.toList == (⟨#[]⟩ : ByteArray).toList)) = (x.verb.toList == (⟨#[105, 110, 99]⟩ : ByteArray).toList)) := fun {o ws} h => by
    unfold shapeW at h
    split at h
    · split at h
      · rename_i hv
        split at h
        · rename_i ho
          split at h
          · rename_i hd
            cases h
            exact ⟨hv, (outsM_right ho).1, (outsM_right ho).2, hd⟩
          · cases h
        · cases h
      · cases h
    · cases h
  unfold shapeM at h
  split at h
  · exact key h
  · exact key h
theorem runV_right {args decl : List ByteArray} {files : List XFile} {verb b : List UInt8} {found : List ByteArray} (h : runV args decl files verb = some (b, found)) : (∀ n ∈ found, rightM (bL n) = true) ∧ found.length ≤ 1000 := by
  have k0 : ∀ {o : Option (List UInt8)}, (o.map fun b => (b, ([] : List ByteArray))) = some (b, found) → (∀ n ∈ found, rightM (bL n) = true) ∧ found.length ≤ 1000 := fun {o} h => by
    cases o with
    | none => cases h
    | some c => cases h; exact ⟨fun n hn => (by cases hn), (by simp)⟩
  unfold runV at h
  repeat' split at h
  · exact k0 h
  · exact k0 h
  · exact k0 h
  · cases h; exact ⟨fun n hn => (by cases hn), (by simp)⟩
  · unfold incM at h
    cases hi : (oneB decl files args).bind fun b => putsD files 11 b ⟨[], [], 0⟩ with
    | none => rw [hi] at h; cases h
    | some s =>
      rw [hi] at h
      cases h
      obtain ⟨b, _, hp⟩ := Option.bind_eq_some_iff.1 hi
      have := putsD_ok files 11 b ⟨[], [], 0⟩ s ⟨by simp, by simp, by simp, by simp⟩ hp
      exact ⟨this.right, Nat.le_trans this.found this.many⟩
  · cases h
theorem right_len {n : ByteArray} (h : rightM (bL n) = true) : (bL n).length ≤ 100 := by
  unfold rightM at h
  rw [Bool.and_eq_true, decide_eq_true_eq, decide_eq_true_eq] at h
  obtain ⟨h0, h1⟩ := h
  rw [← h1]
  unfold cleanM at h0 ⊢
  split
  · simp
  · split
    · simp
    · split
      · simp
      · split
        · simp
        · split
          · simp
          · rename_i h; simpa using h
theorem Views.own2 {σ : Store} {ob : Option Nat} {sz n : Nat} {xs : List D} {v : Value} (hx : oget sz ob σ = some xs) (hn : n ≤ xs.length) : Views σ [.v v, .own ob sz n] [.v v, .slc (xs.take n)] := by
  cases ob with
  | none =>
    simp only [oget, Option.some.injEq] at hx
    subst hx
    refine .le fun w S vs h => ?_
    obtain ⟨v1, vs1, rfl, hv1, hv⟩ := h.cons_inv
    obtain ⟨v2, vs2, rfl, hv2, hv3⟩ := hv.cons_inv
    cases hv2 with
    | own0 => simp only [List.take_nil]; exact .cons hv1 (.cons .slc0 hv3)
  | some b =>
    simp only [oget] at hx
    split at hx
    · rename_i s ys hg
      split at hx
      · rename_i hs
        cases hx; subst hs
        refine .pub hg ?_
        have : pubs b s xs [.v v, .own (some b) s n] = [.v v, .slc (xs.take n)] := by
          simp only [pubs, D.pub]
          rw [if_pos ⟨trivial, trivial, hn⟩]
        rw [this]
        exact .refl _ _
      · cases hx
    · cases hx
end Go.Ab.S16
