/- A part of a proof about the given program: the abstract machine, what functions compute, laid in few texts. -/
import Derived.Test.YticjnnmnjfpopaaGreatDoorKTg
set_option linter.unusedSimpArgs false
set_option linter.unusedVariables false
set_option linter.constructorNameAsVariable false
namespace Go.Ab.S16
open Go Go.Proofs Go.RowKit
structure CmdOk (cmd : ByteArray) : Prop where
  size : cmd.size ≤ 4294967296
  words : (wordsM cmd).length < 2 ^ 40
  word : ∀ w ∈ wordsM cmd, w.size < 2 ^ 40
  args : ∀ x, shapeM cmd = some x → x.args.length < 2 ^ 16 ∧ (Lib.join (x.args.map (·.data.toList)) [32]).length < 2 ^ 45 ∧ x.outs.length < 2 ^ 20
def dish0 : D := .agg [.own none 2 0, .v (.bool false), .v (.string ⟨#[]⟩), .v (.string ⟨#[]⟩)]
def fD (b : List UInt8) (n : ByteArray) : D := XFile.d ⟨n, b⟩
theorem cook1_calls (kA kB kC kD : Nat) (hN : CN kA kB kC kD) (cmd : ByteArray) (decl : List ByteArray) (files : List XFile) (hcmd : CmdOk cmd) (hfl : files.length < 2 ^ 31) (hfb : ∀ f ∈ files, f.b.length < 2 ^ 20) (hd : decl.length < 2 ^ 40) :
    AC Tryz.prog 78 [.ptr kA 1 0 0, .ptr kB 1 0 0, .ptr kC 1 0 0, .ptr kD 4 0 0] (cS kA kB kC kD cmd decl files dish0) (fun e σ' => match cookM cmd decl files with
      | some x => e = .ret (.tup []) ∧ ∃ oo, GrD oo 2 (x.outs.map XFile.d) (cS kA kB kC kD cmd decl files dish0) ∧ σ' = cellsOf oo 2 (x.outs.map XFile.d) ++ cS kA kB kC kD cmd decl files (.agg [.own oo 2 (x.outs.map XFile.d).length, .v (.bool x.once), .v (.string x.dep), .v (.string x.deps)])
      | none => e = .panic failD) := by
  have hsh := fun σ => shape_calls cmd hcmd.size hcmd.words hcmd.word σ
  have ga := cS_a hN (cmd := cmd) (decl := decl) (files := files) (v := dish0)
  have gb := cS_b hN (cmd := cmd) (decl := decl) (files := files) (v := dish0)
  have gc := cS_c hN (cmd := cmd) (decl := decl) (files := files) (v := dish0)
  have gd := cS_d (bA := kA) (bB := kB) (bC := kC) (bD := kD) (cmd := cmd) (decl := decl) (files := files) (v := dish0)
  refine AC.of_body Tryz.func78 rfl Tryz.ntmps78 (by simp) fun C hC => ?_
  rcases hs : shapeM cmd with _ | x
  · have hc : cookM cmd decl files = none := by unfold cookM; rw [hs]
    rw [hc] at hC
    refine Gs.sq ?_
    have hp := hsh (cS kA kB kC kD cmd decl files dish0)
    rw [hs] at hp
    refine Gs.rg [0, 1, 2, 3] fun K hK => ?_; simp (maxSteps:=9^7) only [go_sem, ga]
    refine ⟨_, Tryz.call79, hp.mono ?_⟩
    rintro e σ1 ⟨rfl, hs1⟩
    simp only [go_sem]
    exact Pan.of hC Tryz.func78 rfl
  · obtain ⟨hv, hor, hol, hdv⟩ := shapeM_spec hs
    obtain ⟨hal, haj, hoc⟩ := hcmd.args x hs
    have hck : cookM cmd decl files = cookR x decl files := by unfold cookM; rw [hs]
    refine Gs.sq ?_
    have hp := hsh (cS kA kB kC kD cmd decl files dish0)
    rw [hs] at hp
    refine Gs.rg [0, 1, 2, 3] fun K hK => ?_; simp (maxSteps:=9^7) only [go_sem, ga]
    refine ⟨_, Tryz.call79, hp.mono ?_⟩
    rintro e σ1 ⟨rfl, rfl⟩
    simp only [go_sem, Shp.d]
    refine hK _ _ ?_; clear hK K
    refine Gs.sq (Gs.rg [1, 2, 3, 4, 5, 6, 7, 8] fun K hK => ?_); simp (maxSteps:=9^7) only [go_sem, gb, gc]
    intro bc hbc
    refine hK _ _ ?_; clear hK K
    refine Gs.row_le (ys := [.agg [.slc (x.args.map sD), .slc (decl.map sD), .slc (files.map XFile.d), .own none 1 0, .v (.int .i64 0)]]) (fun w S vs h => by
      obtain ⟨v0, vs, rfl, r0, h⟩ := RepL.cons_inv (show RepL w S (.slc (x.args.map sD) :: [.slc (decl.map sD), .slc (files.map XFile.d), .v (.slice none 0 0), .v (.int .i64 0)]) vs from h)
      obtain ⟨v1, vs, rfl, r1, h⟩ := h.cons_inv
      obtain ⟨v2, vs, rfl, r2, h⟩ := h.cons_inv
      obtain ⟨v3, vs, rfl, r3, h⟩ := h.cons_inv
      exact .cons r0 (.cons r1 (.cons r2 (.cons (DLe.nil_own 1 w S v3 r3) h)))) (by simp [D.cells]) ?_
    change Gs C _ _ ((bc, ckR x.args decl files (.own none 1 0) 0) :: cS kA kB kC kD cmd decl files dish0)
    refine Gs.sq ?_
    rcases hr : runV x.args decl files (bL x.verb) with _ | ⟨b, found⟩
    · have hc0 : cookM cmd decl files = none := by rw [hck]; unfold cookR; rw [hr]
      rw [hc0] at hC
      refine Gs.rg [3, 4, 6, 7, 8, 9] fun K hK => ?_; simp (maxSteps:=9^7) only [go_sem]
      refine ⟨_, Tryz.call80, (verbs_calls _).mono ?_⟩
      rintro e σ1 ⟨db, hdb, rfl, rfl⟩
      have hdbc : bc ≠ db := fun e => by
        rw [e, sget_cons, if_pos rfl] at hdb; cases hdb
      obtain ⟨g, hmf, hge, hgc⟩ := verb_spec x.args decl files bc ((db, .mp verbsM) :: (bc, ckR x.args decl files (.own none 1 0) 0) :: cS kA kB kC kD cmd decl files dish0) (bL x.verb) hv (by rw [sget_cons, if_neg hdbc, sget_self]) hfl hfb hd hal haj
      rw [lB_bL] at hmf
      rw [hr] at hgc
      simp only [go_sem, hmf]
      refine ⟨verbs_like _, ?_⟩
      refine ⟨g, hge, hgc.mono ?_⟩
      rintro e σ2 ⟨rfl, hk⟩
      simp only [go_sem]
      exact Pan.of hC Tryz.func78 rfl
    · refine Gs.rg [3, 4, 6, 7, 8, 9] fun K hK => ?_; simp (maxSteps:=9^7) only [go_sem]
      refine ⟨_, Tryz.call80, (verbs_calls _).mono ?_⟩
      rintro e σ1 ⟨db, hdb, rfl, rfl⟩
      have hdbc : bc ≠ db := fun e => by
        rw [e, sget_cons, if_pos rfl] at hdb; cases hdb
      obtain ⟨g, hmf, hge, hgc⟩ := verb_spec x.args decl files bc ((db, .mp verbsM) :: (bc, ckR x.args decl files (.own none 1 0) 0) :: cS kA kB kC kD cmd decl files dish0) (bL x.verb) hv (by rw [sget_cons, if_neg hdbc, sget_self]) hfl hfb hd hal haj
      rw [lB_bL] at hmf
      rw [hr] at hgc
      simp only [go_sem, hmf]
      refine ⟨verbs_like _, ?_⟩
      refine ⟨g, hge, hgc.mono ?_⟩
      rintro e σ2 ⟨o, fo, many, hgo, hgf, rfl, rfl⟩
      simp only [go_sem]
      have hss : sset bc (ckR x.args decl files (.own fo 1 found.length) many) ((db, .mp verbsM) :: (bc, ckR x.args decl files (.own none 1 0) 0) :: cS kA kB kC kD cmd decl files dish0) = (db, .mp verbsM) :: (bc, ckR x.args decl files (.own fo 1 found.length) many) :: cS kA kB kC kD cmd decl files dish0 := by
        rw [sset_ne hdbc, sset_self]
      rw [hss] at hgo hgf
      simp only [hss]
      refine hK _ _ ?_; clear hK K
      have hdn : sget db ((bc, ckR x.args decl files (.own fo 1 found.length) many) :: cS kA kB kC kD cmd decl files dish0) = none := by
        rw [sget_cons] at hdb ⊢
        split at hdb
        · cases hdb
        · rename_i e; rw [if_neg e]; exact hdb
      have hgf1 := (hgf.drop hdn).1
      have hgo1 : GrD o 1 (b.map bD) (cellsOf fo 1 (found.map sD) ++ ((bc, ckR x.args decl files (.own fo 1 found.length) many) :: cS kA kB kC kD cmd decl files dish0)) := grd_base hgo fun c hc => app_dom hc fun h => by
        rw [sget_cons] at h
        split at h
        · cases h
        · exact h
      have hsl2 : SLe ((bc, ckR x.args decl files (.own fo 1 found.length) many) :: cS kA kB kC kD cmd decl files dish0) ((db, .mp verbsM) :: (bc, ckR x.args decl files (.own fo 1 found.length) many) :: cS kA kB kC kD cmd decl files dish0) := sle_push (SLe.refl _) hdn
      refine Gs.le (ELe.refl _) (SLe.append (SLe.append_left _ _) ((SLe.append (SLe.append_left _ _) (hsl2.trans hgf.sle)).trans hgo.sle)) ?_
      have hon : b.length = (b.map bD).length := (List.length_map ..).symm
      rw [hon]
      refine Gs.rebase [3, 6, 7, 8, 9, 10] ?_
      simp only [go_sem]
      refine Gs.pubSlot 10 rfl hgo1 (fun c hc => ?_) (fun c p hp hk => ?_) ?_
      · have hc2 := hc
        have hfc : fo ≠ some c := own_ne (SLe.append_left _ _) hc
        have h1 : sget c ((bc, ckR x.args decl files (.own fo 1 found.length) many) :: cS kA kB kC kD cmd decl files dish0) = none := by
          rw [sget_append] at hc
          split at hc
          · cases hc
          · exact hc
        have hne : ∀ {b c : Nat} {x : AObj} {τ : Store}, sget b ((c, x) :: τ) = none → b ≠ c ∧ sget b τ = none := fun {b c x τ} h => by
          rw [sget_cons] at h
          split at h
          · cases h
          · rename_i e; exact ⟨e, h⟩
        have h2 := hne h1
        have h3 := hne (show sget c ((kD, _) :: _) = none from h2.2)
        have h4 := hne h3.2
        have h5 := hne h4.2
        have h6 := hne h5.2
        have hpo : ∀ s ys, D.pub c s ys (.own fo 1 found.length) = .own fo 1 found.length := fun s ys => by
          cases fo with
          | none => rfl
          | some k =>
            show (if k = c ∧ 1 = s ∧ found.length ≤ ys.length then _ else _) = _
            rw [if_neg (fun h => hfc (by rw [h.1]))]
        refine PubOK.cells hfc (fun y hy s ys => ?_) (.cons h2.1 (fun s ys => ?_) (.cons h3.1 (fun _ _ => rfl) (.cons h4.1 (fun _ _ => rfl) (.cons h5.1 (fun _ _ => rfl) (.cons h6.1 (fun _ _ => rfl) (.nil c))))))
        · obtain ⟨z, _, rfl⟩ := List.mem_map.1 hy
          rfl
        · unfold ckR
          simp only [AObj.pub, List.map_cons, List.map_nil, D.pub, pubs]
          rw [show D.pub c s ys (.own fo 1 found.length) = .own fo 1 found.length from hpo s ys]
      · simp only [List.mem_cons, List.not_mem_nil, or_false] at hp
        rcases hp with rfl | rfl | rfl | rfl | rfl | rfl
        all_goals first | rfl | exact absurd rfl hk
      simp only [go_sem]
      have hgf2 : ∀ {y : AObj} {w : D}, GrD fo 1 (found.map sD) ((bc, y) :: cS kA kB kC kD cmd decl files w) := fun {y w} => grd_base hgf1 fun c hc => by
        rw [sget_cons] at hc ⊢
        split at hc
        · cases hc
        · rename_i e; rw [if_neg e]; exact cS_dom hc
      have hbcd : kD ≠ bc := fun e => by
        subst e; rw [gd] at hbc; cases hbc
      have gD : ∀ {y : AObj} {w : D}, sget kD (cellsOf fo 1 (found.map sD) ++ ((bc, y) :: cS kA kB kC kD cmd decl files w)) = some (.arr 4 [w]) := fun {y w} => hgf2.keep (by rw [sget_cons, if_neg hbcd, cS_d])
      have sD4 : ∀ {y : AObj} {w z : D}, sset kD (.arr 4 [z]) (cellsOf fo 1 (found.map sD) ++ ((bc, y) :: cS kA kB kC kD cmd decl files w)) = cellsOf fo 1 (found.map sD) ++ ((bc, y) :: cS kA kB kC kD cmd decl files z) := fun {y w z} => by
        rw [hgf2.sset (by rw [sget_cons, if_neg hbcd, cS_d]; rfl), sset_ne hbcd, cS_sd]
      refine Gs.sq ?_
      by_cases hle : b.length ≤ 65536
      · have hdc : decide ((b.length : Int) ≤ 65536) = true := decide_eq_true (by omega)
        refine Gs.rg [3, 6, 7, 8, 9, 10] fun K hK => ?_; simp (maxSteps:=9^7) only [go_sem, ← hon]
        simp only [hdc]
        refine ⟨_, Tryz.call81, (need_calls true _).mono ?_⟩
        rintro e σ1 ⟨rfl, rfl⟩
        simp only [go_sem]
        refine hK _ _ ?_; clear hK K
        refine Gs.sq ?_
        unfold dish0
        refine Gs.rg [3, 6, 7, 8, 9, 10] fun K hK => ?_; simp (maxSteps:=9^7) only [go_sem, gD, sD4]
        refine hK _ _ ?_; clear hK K
        refine Gs.sq (Gs.sq ?_)
        have holl : (x.outs.map sD).length = x.outs.length := List.length_map ..
        refine Gs.rg [3, 7, 8, 9, 10] fun K hK => ?_; simp (maxSteps:=9^7) only [go_sem, holl]
        refine hK _ _ ?_; clear hK K
        refine Gs.bk ?_
        refine Gs.rebase [3, 7, 8, 9, 10, 37, 38, 39] ?_
        simp only [go_sem]
        refine Gs.while (fun (i : Nat) env' σ'' => ∃ oo : Option Nat, (i ≤ x.outs.length ∧ GrD oo 2 ((x.outs.take i).map (fD b)) (cellsOf fo 1 (found.map sD) ++ ((bc, ckR x.args decl files (.own fo 1 found.length) many) :: cS kA kB kC kD cmd decl files dish0))) ∧ env' = [(3, .ptr kD 4 0 0), (7, .slc (x.outs.map sD)), (8, .v (.string x.dep)), (9, .ptr bc 5 0 0), (10, .slc (b.map bD)), (37, .slc (x.outs.map sD)), (38, .v (.int .i64 (x.outs.length : Int))), (39, .v (.int .i64 (i : Int)))] ∧ σ'' = cellsOf oo 2 ((x.outs.take i).map (fD b)) ++ (cellsOf fo 1 (found.map sD) ++ ((bc, ckR x.args decl files (.own fo 1 found.length) many) :: cS kA kB kC kD cmd decl files (.agg [.own oo 2 i, .v (.bool x.once), .v (.string ⟨#[]⟩), .v (.string ⟨#[]⟩)])))) (fun (i : Nat) => x.outs.length - i) 0 ⟨none, ⟨Nat.zero_le _, GrD.nil _ _⟩, rfl, rfl⟩ ?_
        rintro i env' σ'' ⟨oo, ⟨hi, hgr⟩, rfl, rfl⟩ ih
        have ih1 := ih
        have hgr2 : ∀ {y : AObj} {w : D}, GrD oo 2 ((x.outs.take i).map (fD b)) (cellsOf fo 1 (found.map sD) ++ ((bc, y) :: cS kA kB kC kD cmd decl files w)) := fun {y w} => grd_base hgr fun c hc => app_dom hc fun h => by
          rw [sget_cons] at h ⊢
          split at h
          · cases h
          · rename_i e; rw [if_neg e]; exact cS_dom h
        have gD2 : ∀ {y : AObj} {w : D}, sget kD (cellsOf oo 2 ((x.outs.take i).map (fD b)) ++ (cellsOf fo 1 (found.map sD) ++ ((bc, y) :: cS kA kB kC kD cmd decl files w))) = some (.arr 4 [w]) := fun {y w} => hgr2.keep gD
        have sD2 : ∀ {y : AObj} {w z : D}, sset kD (.arr 4 [z]) (cellsOf oo 2 ((x.outs.take i).map (fD b)) ++ (cellsOf fo 1 (found.map sD) ++ ((bc, y) :: cS kA kB kC kD cmd decl files w))) = cellsOf oo 2 ((x.outs.take i).map (fD b)) ++ (cellsOf fo 1 (found.map sD) ++ ((bc, y) :: cS kA kB kC kD cmd decl files z)) := fun {y w z} => by
          rw [hgr2.sset (by rw [gD]; rfl), sD4]
        have hdrop : ∀ {y : AObj} {w : D}, SLe (cellsOf oo 2 ((x.outs.take i).map (fD b)) ++ cS kA kB kC kD cmd decl files w) (cellsOf oo 2 ((x.outs.take i).map (fD b)) ++ (cellsOf fo 1 (found.map sD) ++ ((bc, y) :: cS kA kB kC kD cmd decl files w))) := fun {y w} => SLe.append (SLe.append_left _ _) (((sle_push (SLe.refl _) (cS_dom hbc)).trans hgf2.sle).trans hgr2.sle)
        refine Gs.sq (Gs.rg [3, 7, 8, 9, 10, 37, 38, 39] fun K hK => ?_); simp (maxSteps:=9^7) only [go_sem]
        refine hK _ _ ?_; clear hK K
        refine Gs.sq ?_
        refine Gs.cond rfl (fun h40 => ?_) (fun h40 => ?_)
        · have hlt : i < x.outs.length := by simpa using h40
          have hg := getD_map_lt sD x.outs i hlt
          rw [sD] at hg
          have hi0 : (0 : Int) ≤ (i : Int) := by omega
          have hi1 : (i : Int) < (x.outs.length : Int) := by omega
          have ho2 : ∀ {y : AObj} {w : D}, oget 2 oo (cellsOf oo 2 ((x.outs.take i).map (fD b)) ++ (cellsOf fo 1 (found.map sD) ++ ((bc, y) :: cS kA kB kC kD cmd decl files w))) = some ((x.outs.take i).map (fD b)) := fun {y w} => (hgr2 (y := y) (w := w)).oget
          have hd2 : ∀ {y : AObj} {w : D}, sdelo oo (cellsOf oo 2 ((x.outs.take i).map (fD b)) ++ (cellsOf fo 1 (found.map sD) ++ ((bc, y) :: cS kA kB kC kD cmd decl files w))) = cellsOf fo 1 (found.map sD) ++ ((bc, y) :: cS kA kB kC kD cmd decl files w) := fun {y w} => (hgr2 (y := y) (w := w)).sdel
          have htl : ((x.outs.take i).map (fD b)).length = i := by simp; omega
          have htk : List.take i ((x.outs.take i).map (fD b)) = (x.outs.take i).map (fD b) := List.take_of_length_le (by omega)
          refine Gs.sk ?_
          refine Gs.sq ?_
          refine Gs.bk ?_
          refine Gs.sq (Gs.rg [3, 7, 8, 9, 10, 37, 38, 39] fun K hK => ?_); simp (maxSteps:=9^7) only [go_sem, holl, hg, hi0, hi1]
          refine hK _ _ ?_; clear hK K
          refine Gs.draw [3, 7, 8, 9, 10, 12, 37, 38, 39] [49] [kD] [9] [(0, true), (1, true), (2, true), (3, true), (4, false), (5, true), (6, true), (7, false), (8, true), (9, false)] (by kernel_rfl) (by decide) (by kernel_rfl) fun K hK => ?_; simp (maxSteps:=9^7) only [go_sem, gD2]
          refine ⟨_, Tryz.call67, (clone_byte (b.map bD) _ (plain_bD b) (by rw [List.length_map]; omega)).mono ?_⟩
          rintro e σ1 ⟨rfl, rfl⟩
          simp only [go_sem, gD2, ho2, hd2, htk]
          refine ⟨⟨by decide, by decide⟩, ⟨by omega, fun y hy => by rw [hy]; exact ⟨rfl, rfl⟩, by rw [htl]; omega, by rw [htl]; omega⟩, fun ob hz hf => ?_⟩
          have hmf : (x.outs.take i).map (fD b) ++ [D.agg [D.v (Value.string x.outs[i]), D.slc (b.map bD)]] = (x.outs.take (i + 1)).map (fD b) := by rw [List.take_succ_eq_append_getElem hlt, List.map_append]; rfl
          simp only [hmf] at hz ⊢
          have hgr3 : ∀ {y : AObj} {w : D}, GrD ob 2 ((x.outs.take (i + 1)).map (fD b)) (cellsOf fo 1 (found.map sD) ++ ((bc, y) :: cS kA kB kC kD cmd decl files w)) := fun {y w} => ⟨fun c hc => app_dom (hf c hc) fun h => (by
            rw [sget_cons] at h ⊢
            split at h
            · cases h
            · rename_i e; rw [if_neg e]; exact cS_dom h), hz⟩
          have gD3 : ∀ {y : AObj} {w : D}, sget kD (cellsOf ob 2 ((x.outs.take (i + 1)).map (fD b)) ++ (cellsOf fo 1 (found.map sD) ++ ((bc, y) :: cS kA kB kC kD cmd decl files w))) = some (.arr 4 [w]) := fun {y w} => hgr3.keep gD
          have sD3 : ∀ {y : AObj} {w z : D}, sset kD (.arr 4 [z]) (cellsOf ob 2 ((x.outs.take (i + 1)).map (fD b)) ++ (cellsOf fo 1 (found.map sD) ++ ((bc, y) :: cS kA kB kC kD cmd decl files w))) = cellsOf ob 2 ((x.outs.take (i + 1)).map (fD b)) ++ (cellsOf fo 1 (found.map sD) ++ ((bc, y) :: cS kA kB kC kD cmd decl files z)) := fun {y w z} => by
            rw [hgr3.sset (by rw [gD]; rfl), sD4]
          have hl3 : ((x.outs.take (i + 1)).map (fD b)).length = i + 1 := by simp; omega
          refine ⟨?_, ?_⟩
          · rintro b1 rfl
            rw [gD3, gD2]
          simp only [go_sem, gD3, sD3, hl3]
          refine hK _ _ ?_; clear hK K
          refine Gs.ib ?_
          refine Gs.rg [3, 7, 8, 9, 10, 37, 38, 39] fun K hK => ?_; simp (maxSteps:=9^7) only [go_sem]
          refine hK _ _ ?_; clear hK K
          refine Gs.rebase [3, 7, 8, 9, 10, 37, 38, 39] ?_
          simp only [go_sem]
          rw [wrap_succ i (by omega)]
          exact ih (i + 1) _ _ ⟨ob, ⟨by omega, hgr3⟩, rfl, rfl⟩ (by omega)
        · have hie : i = x.outs.length := by simp at h40; omega
          subst hie
          have hxs : (x.outs.take x.outs.length).map (fD b) = (x.outs.map fun n => (⟨n, b⟩ : XFile)).map XFile.d := by rw [List.take_length, List.map_map]; rfl
          have hxl : ((x.outs.map fun n => (⟨n, b⟩ : XFile)).map XFile.d).length = x.outs.length := by simp
          have hgF : GrD oo 2 ((x.outs.map fun n => (⟨n, b⟩ : XFile)).map XFile.d) (cS kA kB kC kD cmd decl files dish0) := by
            rw [← hxs]
            exact grd_base hgr fun c hc => by
              have h1 : sget c ((bc, ckR x.args decl files (.own fo 1 found.length) many) :: cS kA kB kC kD cmd decl files dish0) = none := by
                rw [sget_append] at hc
                split at hc
                · cases hc
                · exact hc
              rw [sget_cons] at h1
              split at h1
              · cases h1
              · exact h1
          refine Gs.exit rfl ?_
          refine Gs.sq (Gs.rg [3, 7, 8, 9] fun K hK => ?_); simp (maxSteps:=9^7) only [go_sem]
          refine hK _ _ ?_; clear hK K
          refine Gs.cond rfl (fun h54 => ?_) (fun h54 => ?_)
          · have hdt : (!(x.dep.toList == (⟨#[]⟩ : ByteArray).toList)) = true := h54
            have hcs : cookM cmd decl files = some ⟨x.outs.map fun n => ⟨n, b⟩, x.once, x.dep, lB (printT (x.outs.getD 0 ⟨#[]⟩) found ++ [10])⟩ := by rw [hck]; unfold cookR; rw [hr]; simp only [if_pos hle, if_pos hdt]
            rw [hcs] at hC
            have hg0 := getD_map_lt sD x.outs 0 (by omega)
            have h00 : x.outs[0]'(by omega) = x.outs.getD 0 ⟨#[]⟩ := by rw [List.getD_eq_getElem?_getD, List.getElem?_eq_getElem (by omega)]; rfl
            rw [sD, h00] at hg0
            have hi00 : (0 : Int) < (x.outs.length : Int) := by omega
            have hr0 := hor _ (List.getElem_mem (show 0 < x.outs.length by omega))
            rw [h00] at hr0
            have gBc : ∀ {y : AObj} {w : D}, sget bc (cellsOf oo 2 ((x.outs.take x.outs.length).map (fD b)) ++ (cellsOf fo 1 (found.map sD) ++ ((bc, y) :: cS kA kB kC kD cmd decl files w))) = some y := fun {y w} => hgr2.keep (hgf2.keep (sget_self ..))
            obtain ⟨hfr, hfl2⟩ := runV_right hr
            have hof : ∀ {y : AObj} {w : D}, oget 1 fo (cellsOf oo 2 ((x.outs.take x.outs.length).map (fD b)) ++ (cellsOf fo 1 (found.map sD) ++ ((bc, y) :: cS kA kB kC kD cmd decl files w))) = some (found.map sD) := fun {y w} => by
              rw [oget_app (cells_none (hgr2 (y := y) (w := w)))]
              exact hgf2.oget
            have hpr := print_calls (x.outs.getD 0 ⟨#[]⟩) found [] (by have := right_len hr0; omega) (by omega) (fun d hd => by have := right_len (hfr d hd); omega) (fun d hd => by
              rcases List.mem_cons.1 hd with rfl | hd
              · exact hr0
              · exact hfr d hd)
            have hfm : List.take found.length (found.map sD) = found.map sD := List.take_of_length_le (by simp)
            have hvw : ∀ {y : AObj} {w : D}, Views (cellsOf oo 2 ((x.outs.take x.outs.length).map (fD b)) ++ (cellsOf fo 1 (found.map sD) ++ ((bc, y) :: cS kA kB kC kD cmd decl files w))) [.v (.string (x.outs.getD 0 ⟨#[]⟩)), .own fo 1 found.length] [.v (.string (x.outs.getD 0 ⟨#[]⟩)), .slc (found.map sD)] := fun {y w} => by
              have := Views.own2 (v := .string (x.outs.getD 0 ⟨#[]⟩)) (hof (y := y) (w := w)) (n := found.length) (by simp)
              rw [hfm] at this; exact this
            refine Gs.sq (Gs.rg [3, 7, 8, 9] fun K hK => ?_); simp (maxSteps:=9^7) only [go_sem, gD2, sD2]
            refine hK _ _ ?_; clear hK K
            refine Gs.draw [3, 7, 9] [] [bc] [] [(0, true), (1, true), (2, true), (3, true), (4, true), (5, true), (6, true), (7, false), (8, true), (9, true), (10, true), (11, true), (12, false)] (by kernel_rfl) (by decide) (by kernel_rfl) fun K hK => ?_; simp (maxSteps:=9^7) only [go_sem, holl, hg0, hi00, gBc, ckR]
            refine ⟨_, Tryz.call82, (AC.lend hvw rfl hpr).mono ?_⟩
            rintro e σ1 ⟨rfl, rfl⟩
            simp only [go_sem, gD2, sD2]
            refine ⟨fun b1 hb1 => (by subst hb1; rw [gBc, gBc]), ?_⟩
            refine hK _ _ ?_; clear hK K
            refine Gs.le (ELe.refl _) hdrop ?_
            refine Gs.done hC Tryz.func78 (by simp [go_sem]) ?_
            simp only [go_sem]
            exact ⟨oo, hgF, by rw [hxs, hxl]⟩
          · have hdt : (!(x.dep.toList == (⟨#[]⟩ : ByteArray).toList)) = false := h54
            have hcs : cookM cmd decl files = some ⟨x.outs.map fun n => ⟨n, b⟩, x.once, x.dep, ⟨#[]⟩⟩ := by rw [hck]; unfold cookR; rw [hr]; simp only [if_pos hle, hdt]; rfl
            rw [hcs] at hC
            have hde : x.dep = ⟨#[]⟩ := by
              have h1 : x.dep.toList = (⟨#[]⟩ : ByteArray).toList := by simpa using hdt
              rw [tl_data, tl_data] at h1
              have e : ∀ x y : ByteArray, x.data = y.data → x = y := fun x y h => by cases x; cases y; cases h; rfl
              exact e _ _ (Array.toList_inj.1 h1)
            refine Gs.le (ELe.refl _) hdrop ?_
            refine Gs.sk ?_
            refine Gs.done hC Tryz.func78 (by simp [go_sem]) ?_
            simp only [go_sem]
            exact ⟨oo, hgF, by rw [hxs, hxl, hde]⟩
      · have hdc : decide ((b.length : Int) ≤ 65536) = false := decide_eq_false (by omega)
        have hc0 : cookM cmd decl files = none := by rw [hck]; unfold cookR; rw [hr]; exact if_neg hle
        rw [hc0] at hC
        refine Gs.rg [3, 6, 7, 8, 9, 10] fun K hK => ?_; simp (maxSteps:=9^7) only [go_sem, ← hon]
        simp only [hdc]
        refine ⟨_, Tryz.call81, (need_calls false _).mono ?_⟩
        rintro e σ1 ⟨rfl, rfl⟩
        simp only [go_sem]
        exact Pan.of hC Tryz.func78 rfl
def XDish.none : XDish := ⟨[], false, ⟨#[]⟩, ⟨#[]⟩⟩
def cookD : Option XDish → D
  | some x => .tup [x.d, eD 0]
  | none => .tup [XDish.none.d, eD 13]
theorem cook_own (cmd : ByteArray) (decl : List ByteArray) (files : List XFile) (hcmd : CmdOk cmd) (hfl : files.length < 2 ^ 31) (hfb : ∀ f ∈ files, f.b.length < 2 ^ 20) (hd : decl.length < 2 ^ 40) :
    AC Tryz.prog 42 [.v (.string cmd), .slc (decl.map sD), .slc (files.map XFile.d)] [] (fun e σ' => match cookM cmd decl files with
      | some x => ∃ oo, GrD oo 2 (x.outs.map XFile.d) [] ∧ e = .ret (.tup [.agg [.own oo 2 (x.outs.map XFile.d).length, .v (.bool x.once), .v (.string x.dep), .v (.string x.deps)], eD 0]) ∧ σ' = cellsOf oo 2 (x.outs.map XFile.d)
      | none => e = .ret (.tup [.agg [.v (.slice none 0 0), .v (.bool false), .v (.string ⟨#[]⟩), .v (.string ⟨#[]⟩)], eD 13]) ∧ σ' = []) := by
  refine AC.forget (R := fun e σ' => match cookM cmd decl files with
      | some x => ∃ oo, GrD oo 2 (x.outs.map XFile.d) [] ∧ e = .ret (.tup [.agg [.own oo 2 (x.outs.map XFile.d).length, .v (.bool x.once), .v (.string x.dep), .v (.string x.deps)], eD 0]) ∧ SLe (cellsOf oo 2 (x.outs.map XFile.d)) σ'
      | none => e = .ret (.tup [.agg [.v (.slice none 0 0), .v (.bool false), .v (.string ⟨#[]⟩), .v (.string ⟨#[]⟩)], eD 13])) ?_ (fun e σ' h => ?_)
  rotate_left
  · cases hc : cookM cmd decl files with
    | none => rw [hc] at h; exact ⟨[], SLe.nil _, h, rfl⟩
    | some x =>
      rw [hc] at h
      obtain ⟨oo, h1, h2, h3⟩ := h
      exact ⟨_, h3, oo, h1, h2, rfl⟩
  refine AC.of_body Tryz.func42 rfl Tryz.ntmps42 (by simp) fun C hC => ?_
  refine Gs.sq (Gs.rg [0, 1, 2] fun K hK => ?_); simp (maxSteps:=9^7) only [go_sem]
  intro kA kB hB kC hC' kR hR
  refine hK _ _ ?_; clear hK K
  refine Gs.sq (Gs.rg [3, 4, 5, 6] fun K hK => ?_); simp (maxSteps:=9^7) only [go_sem]
  intro kD hD
  refine hK _ _ ?_; clear hK K
  have hne : ∀ {b c : Nat} {x : AObj} {τ : Store}, sget b ((c, x) :: τ) = none → b ≠ c ∧ sget b τ = none := fun {b c x τ} h => by
    rw [sget_cons] at h
    split at h
    · cases h
    · rename_i e; exact ⟨e, h⟩
  have hN : CN kA kB kC kD := ⟨Ne.symm (hne hB).1, Ne.symm (hne (hne hC').2).1, Ne.symm (hne (hne (hne (hne hD).2).2).2).1, Ne.symm (hne hC').1, Ne.symm (hne (hne (hne hD).2).2).1, Ne.symm (hne (hne hD).2).1⟩
  refine Gs.row_le (ys := [dish0]) (fun w S vs h => by
    obtain ⟨v0, vs, rfl, r0, h⟩ := RepL.cons_inv (show RepL w S (.v (.slice none 0 0) :: [.v (.bool false), .v (.string ⟨#[]⟩), .v (.string ⟨#[]⟩)]) vs from h)
    exact .cons (DLe.nil_own 2 w S v0 r0) h) (by simp [D.cells, dish0]) ?_
  obtain ⟨zR, hzR⟩ : ∃ z : D, z = .agg [.v (.slice none 0 0), .v (.bool false), .v (.string ByteArray.empty), .v (.string ByteArray.empty)] := ⟨_, rfl⟩
  have hRA := (hne (hne (hne hR).2).2).1
  have hRB := (hne (hne hR).2).1
  have hRC := (hne hR).1
  have hDR := (hne hD).1
  have hap : Apart [(kR, .arr 4 [zR])] (cS kA kB kC kD cmd decl files dish0) := .cons (by
    unfold cS
    rw [sget_cons, if_neg (Ne.symm hDR), sget_cons, if_neg hRC, sget_cons, if_neg hRB, sget_cons, if_neg hRA]; rfl) (Apart.nil _)
  have hs1 : SLe (cS kA kB kC kD cmd decl files dish0) [(kD, .arr 4 [dish0]), (kR, .arr 4 [zR]), (kC, .arr 1 [.slc (files.map XFile.d)]), (kB, .arr 1 [.slc (decl.map sD)]), (kA, .arr 1 [.v (.string cmd)])] := by
    unfold cS
    exact sle_cons2 (sle_push (SLe.refl _) (by rw [sget_cons, if_neg hRC, sget_cons, if_neg hRB, sget_cons, if_neg hRA]; rfl))
  have hs2 : SLe [(kR, .arr 4 [zR])] [(kD, .arr 4 [dish0]), (kR, .arr 4 [zR]), (kC, .arr 1 [.slc (files.map XFile.d)]), (kB, .arr 1 [.slc (decl.map sD)]), (kA, .arr 1 [.v (.string cmd)])] := SLe.cons (by rw [sget_cons, if_neg (Ne.symm hDR), sget_self]) (SLe.nil _)
  have hfr := (cook1_calls kA kB kC kD hN cmd decl files hcmd hfl hfb hd).frame hs1 hs2 hap
  have hgu := guarded_calls 78 [.ptr kA 1 0 0, .ptr kB 1 0 0, .ptr kC 1 0 0, .ptr kD 4 0 0] _ (R := fun e σ' => match cookM cmd decl files with
      | some x => e = .ret (.v (.int .i64 0)) ∧ ∃ oo, GrD oo 2 (x.outs.map XFile.d) (cS kA kB kC kD cmd decl files dish0) ∧ (Apart [(kR, .arr 4 [zR])] (cellsOf oo 2 (x.outs.map XFile.d) ++ cS kA kB kC kD cmd decl files (.agg [.own oo 2 (x.outs.map XFile.d).length, .v (.bool x.once), .v (.string x.dep), .v (.string x.deps)]))) ∧ σ' = (cellsOf oo 2 (x.outs.map XFile.d) ++ cS kA kB kC kD cmd decl files (.agg [.own oo 2 (x.outs.map XFile.d).length, .v (.bool x.once), .v (.string x.dep), .v (.string x.deps)])) ++ [(kR, .arr 4 [zR])]
      | none => e = .ret (.v (.int .i64 13)) ∧ sget kR σ' = some (.arr 4 [zR])) Tryz.call78 hfr (fun e σ' h => by
    obtain ⟨σ1, h1, h2, rfl⟩ := h
    cases hc : cookM cmd decl files with
    | none =>
      rw [hc] at h1
      refine .inr ⟨h1, rfl, ?_⟩
      rw [sget_append_none (h2 kR (by rw [sget_self]; simp)), sget_self]
    | some x =>
      rw [hc] at h1
      obtain ⟨rfl, oo, hg, rfl⟩ := h1
      exact .inl ⟨rfl, rfl, oo, hg, h2, rfl⟩)
  rw [← hzR]
  refine Gs.sq ?_
  rcases hc : cookM cmd decl files with _ | x
  · rw [hc] at hgu hC
    refine Gs.rg [3, 4, 5, 6, 8] fun K hK => ?_; simp (maxSteps:=9^7) only [go_sem]
    refine ⟨_, Tryz.call77, hgu.mono ?_⟩
    rintro e σ1 ⟨rfl, hz⟩
    simp only [go_sem]
    refine hK _ _ ?_; clear hK K
    refine Gs.sq (Gs.sq ?_)
    refine Gs.rg [6, 8, 9] fun K hK => ?_; simp (maxSteps:=9^7) only [go_sem]
    refine hK _ _ ?_; clear hK K
    refine Gs.condT rfl ?_
    refine Gs.sq (Gs.rg [6, 9] fun K hK => ?_); simp (maxSteps:=9^7) only [go_sem, hz, hzR]
    refine hK _ _ ?_; clear hK K
    have hzr : ∀ r, sget kR (sset kR (.arr 4 [r]) σ1) = some (.arr 4 [r]) := fun r => by rw [sget_sset, if_pos rfl, hz]; rfl
    refine Gs.ret hC Tryz.func42 (by simp [go_sem, hzr]) ?_
    simp only [go_sem, hzr]
    rfl
  · rw [hc] at hgu hC
    refine Gs.rg [3, 4, 5, 6, 8] fun K hK => ?_; simp (maxSteps:=9^7) only [go_sem]
    refine ⟨_, Tryz.call77, hgu.mono ?_⟩
    rintro e σ1 ⟨rfl, oo, hg, hapR, rfl⟩
    simp only [go_sem]
    refine hK _ _ ?_; clear hK K
    refine Gs.sq (Gs.sq ?_)
    refine Gs.rg [6, 8, 9] fun K hK => ?_; simp (maxSteps:=9^7) only [go_sem]
    refine hK _ _ ?_; clear hK K
    refine Gs.condF rfl ?_
    refine Gs.sk ?_
    refine Gs.sq ?_
    obtain ⟨W, hW⟩ : ∃ W : D, W = .agg [.own oo 2 (x.outs.map XFile.d).length, .v (.bool x.once), .v (.string x.dep), .v (.string x.deps)] := ⟨_, rfl⟩
    rw [← hW] at hapR ⊢
    have hgW : GrD oo 2 (x.outs.map XFile.d) (cS kA kB kC kD cmd decl files W) := grd_base hg fun b hb => cS_dom hb
    have hkR := hapR kR (by rw [sget_self]; simp)
    have gD5 : ∀ r, sget kD (cellsOf oo 2 (x.outs.map XFile.d) ++ cS kA kB kC kD cmd decl files W ++ [(kR, .arr 4 [r])]) = some (.arr 4 [.agg [.own oo 2 (x.outs.map XFile.d).length, .v (.bool x.once), .v (.string x.dep), .v (.string x.deps)]]) := fun r => by
      rw [← hW]; exact sget_append_some (hgW.keep cS_d)
    have gR5 : ∀ r, sget kR (cellsOf oo 2 (x.outs.map XFile.d) ++ cS kA kB kC kD cmd decl files W ++ [(kR, .arr 4 [r])]) = some (.arr 4 [r]) := fun r => by
      rw [sget_append_none hkR, sget_self]
    have sR5 : ∀ r r', sset kR (.arr 4 [r']) (cellsOf oo 2 (x.outs.map XFile.d) ++ cS kA kB kC kD cmd decl files W ++ [(kR, .arr 4 [r])]) = cellsOf oo 2 (x.outs.map XFile.d) ++ cS kA kB kC kD cmd decl files W ++ [(kR, .arr 4 [r'])] := fun r r' => by
      rw [sset_app hkR, sset_self]
    have gR6 : ∀ r, sget kR (cellsOf oo 2 (x.outs.map XFile.d) ++ (cS kA kB kC kD cmd decl files W ++ [(kR, .arr 4 [r])])) = some (.arr 4 [r]) := fun r => by rw [← List.append_assoc]; exact gR5 r
    rw [hzR]
    refine Gs.rg [6, 8] fun K hK => ?_; simp (maxSteps:=9^7) only [go_sem, gD5, gR5, sR5]
    refine hK _ _ ?_; clear hK K
    refine Gs.ret hC Tryz.func42 (by simp [go_sem, gR6]) ?_
    simp only [go_sem, gR5]
    exact ⟨oo, ⟨fun c hc => rfl, hg.zero⟩, rfl, (SLe.append_left _ _).trans (SLe.append_left _ _)⟩
theorem cook_calls (cmd : ByteArray) (decl : List ByteArray) (files : List XFile) (hcmd : CmdOk cmd) (hfl : files.length < 2 ^ 31) (hfb : ∀ f ∈ files, f.b.length < 2 ^ 20) (hd : decl.length < 2 ^ 40) (σ : Store) :
    AC Tryz.prog 42 [.v (.string cmd), .slc (decl.map sD), .slc (files.map XFile.d)] σ (fun e σ' => e = .ret (cookD (cookM cmd decl files)) ∧ σ' = σ) := by
  have h := cook_own cmd decl files hcmd hfl hfb hd
  have h2 : AC Tryz.prog 42 [.v (.string cmd), .slc (decl.map sD), .slc (files.map XFile.d)] [] (fun e σ' => (e = .ret (cookD (cookM cmd decl files)) ∧ σ' = []) ∨ ∃ x b, cookM cmd decl files = some x ∧ e = .ret (.tup [.agg [.own (some b) 2 (x.outs.map XFile.d).length, .v (.bool x.once), .v (.string x.dep), .v (.string x.deps)], eD 0]) ∧ σ' = [(b, .arr 2 (x.outs.map XFile.d))]) := by
    refine h.ret_le fun e σ' hR => ?_
    cases hc : cookM cmd decl files with
    | none =>
      rw [hc] at hR
      obtain ⟨rfl, rfl⟩ := hR
      refine .inr ⟨_, _, rfl, fun w S v hv => ?_, .inl ⟨rfl, rfl⟩⟩
      cases hv with
      | tup hr =>
        obtain ⟨v0, vs, rfl, r0, hr2⟩ := hr.cons_inv
        cases r0 with
        | agg r0 =>
          obtain ⟨v1, vs1, rfl, r1, r2⟩ := RepL.cons_inv (show RepL w S (.v (.slice none 0 0) :: [.v (.bool false), .v (.string ⟨#[]⟩), .v (.string ⟨#[]⟩)]) _ from r0)
          exact .tup (.cons (.agg (.cons (DLe.nil_slc w S v1 r1) r2)) hr2)
    | some x =>
      rw [hc] at hR
      obtain ⟨oo, hg, rfl, rfl⟩ := hR
      cases oo with
      | some b => exact .inl (.inr ⟨x, b, rfl, rfl, rfl⟩)
      | none =>
        have hx := hg.zero rfl
        refine .inr ⟨_, _, rfl, fun w S v hv => ?_, .inl ⟨rfl, rfl⟩⟩
        cases hv with
        | tup hr =>
          obtain ⟨v0, vs, rfl, r0, hr2⟩ := hr.cons_inv
          cases r0 with
          | agg r0 =>
            obtain ⟨v1, vs1, rfl, r1, r2⟩ := r0.cons_inv
            refine .tup (.cons (.agg (.cons ?_ r2)) hr2)
            rw [hx]
            exact DLe.own_slc _ _ w S v1 r1
  refine h2.pub1 (R' := fun e => e = .ret (cookD (cookM cmd decl files))) (fun e σ' hR => ?_) σ
  rcases hR with h3 | ⟨x, b, hc, rfl, rfl⟩
  · exact .inl h3
  · refine .inr ⟨_, b, 2, _, rfl, rfl, ?_⟩
    rw [hc]
    unfold cookD XDish.d eD
    simp only [D.pub, pubs, true_and]
    rw [if_pos (Nat.le_refl _), List.take_length]
theorem clone_fileO (xs : List D) (σ : Store) (hp : ∀ x ∈ xs, x.cells.length = 2 ∧ x.plain = true) (hl : xs.length < 2 ^ 40) :
    AC Tryz.prog 39 [.slc xs] σ (fun e σ' => ∃ o, GrD o 2 xs σ ∧ e = .ret (.own o 2 xs.length) ∧ σ' = cellsOf o 2 xs ++ σ) := by
  refine AC.ret_le (R := fun e σ' => (∃ o, GrD o 2 xs σ ∧ e = .ret (.own o 2 xs.length) ∧ σ' = cellsOf o 2 xs ++ σ) ∨ (xs = [] ∧ e = .ret (.v (.slice none 0 0)) ∧ σ' = σ)) ?_ fun e σ' h => ?_
  rotate_left
  · rcases h with h | ⟨rfl, rfl, rfl⟩
    · exact .inl h
    · exact .inr ⟨_, _, rfl, DLe.nil_own 2, none, GrD.nil _ _, rfl, rfl⟩
  refine AC.of_body Tryz.func39 rfl Tryz.ntmps39 (by simp) fun C hC => ?_
  refine Gs.sq (Gs.rg [0] fun K hK => ?_); simp (maxSteps:=9^7) only [go_sem]
  refine hK _ _ ?_; clear hK K
  refine Gs.sq (Gs.sq ?_)
  refine Gs.rg [0] fun K hK => ?_; simp (maxSteps:=9^7) only [go_sem]
  intro t ht
  refine hK _ _ ?_; clear hK K
  refine Gs.cond rfl (fun h4 => ?_) (fun h4 => ?_)
  · have hx : xs = [] := by
      cases xs with
      | nil => rfl
      | cons a l => have := ht (by simp); rw [h4] at this; cases this
    refine Gs.sq (Gs.rg [] fun K hK => ?_); simp (maxSteps:=9^7) only [go_sem]
    refine hK _ _ ?_; clear hK K
    refine Gs.ret hC Tryz.func39 (by simp [go_sem]) ?_
    simp only [go_sem]
    exact .inr hx
  · refine Gs.sk ?_
    refine Gs.sq (Gs.rg [0] fun K hK => ?_); simp (maxSteps:=9^7) only [go_sem]
    refine ⟨by decide, fun b hb => ⟨⟨hp, by omega, by omega⟩, fun ob hz hf => ?_⟩⟩
    rw [sdel_fresh hb] at hf ⊢
    refine hK _ _ ?_; clear hK K
    refine Gs.ret hC Tryz.func39 (by simp [go_sem]) ?_
    simp only [go_sem]
    exact .inl ⟨ob, ⟨hf, hz⟩, rfl, rfl⟩
theorem plain_file (l : List XFile) : ∀ y ∈ l.map XFile.d, y.cells.length = 2 ∧ y.plain = true := plain_mapF XFile.d 2 (fun _ => ⟨rfl, rfl⟩) l
theorem oget_grd {o oa : Option Nat} {sz s : Nat} {xs ys : List D} {σ : Store} (hgr : GrD o sz xs σ) (hx : oget s oa σ = some ys) : oget s oa (cellsOf o sz xs ++ σ) = some ys := by
  rw [oget_app fun c hc => ?_, hx]
  subst hc
  cases o with
  | none => rfl
  | some k =>
    have hk := hgr.fresh k rfl
    have : c ≠ k := fun e => by
      subst e
      simp only [oget, hk] at hx
      cases hx
    show sget c [(k, _)] = none
    rw [sget_cons, if_neg this]; rfl
theorem concat2_file (oa om : Option Nat) (A M : List XFile) (σ : Store) (ha : oget 2 oa σ = some (A.map XFile.d)) (hm : oget 2 om σ = some (M.map XFile.d)) (hla : A.length ≤ 1000) (hlm : M.length ≤ 1000) :
    AC Tryz.prog 41 [.slc [.own oa 2 A.length, .own om 2 M.length]] σ (fun e σ' => ∃ o, GrD o 2 ((A ++ M).map XFile.d) σ ∧ e = .ret (.own o 2 (A ++ M).length) ∧ σ' = cellsOf o 2 ((A ++ M).map XFile.d) ++ σ) := by
  have hg0 : ∀ {α : Type} (x y d : α), [x, y].getD 0 d = x := fun _ _ _ => rfl
  have hg1 : ∀ {α : Type} (x y d : α), [x, y].getD 1 d = y := fun _ _ _ => rfl
  have hA : List.take A.length (A.map XFile.d) = A.map XFile.d := List.take_of_length_le (by simp)
  have hM : List.take M.length (M.map XFile.d) = M.map XFile.d := List.take_of_length_le (by simp)
  have hAl : A.length ≤ (A.map XFile.d).length := by simp
  have hMl : M.length ≤ (M.map XFile.d).length := by simp
  refine AC.of_body Tryz.func41 rfl Tryz.ntmps41 (by simp) fun C hC => ?_
  obtain ⟨T, hT⟩ : ∃ T : Nat → List XFile, T = fun i => if i = 0 then [] else if i = 1 then A else A ++ M := ⟨_, rfl⟩
  have hT0 : T 0 = [] := by rw [hT]; rfl
  have hT1 : T 1 = A := by rw [hT]; rfl
  have hT2 : T 2 = A ++ M := by rw [hT]; rfl
  refine Gs.sq (Gs.rg [0] fun K hK => ?_); simp (maxSteps:=9^7) only [go_sem]
  refine hK _ _ ?_; clear hK K
  refine Gs.sq (Gs.rg [0] fun K hK => ?_); simp (maxSteps:=9^7) only [go_sem]
  refine hK _ _ ?_; clear hK K
  refine Gs.sq (Gs.sq ?_)
  refine Gs.rg [0, 3] fun K hK => ?_; simp (maxSteps:=9^7) only [go_sem]
  refine hK _ _ ?_; clear hK K
  refine Gs.bk ?_
  refine Gs.rebase [0, 3, 9, 10, 11] ?_
  simp only [go_sem]
  refine Gs.while (fun (i : Nat) env' σ'' => (i ≤ 2) ∧ env' = [(0, .slc [.own oa 2 A.length, .own om 2 M.length]), (3, .v (.int .i64 ((T i).length : Int))), (9, .slc [.own oa 2 A.length, .own om 2 M.length]), (10, .v (.int .i64 2)), (11, .v (.int .i64 (i : Int)))] ∧ σ = σ'') (fun (i : Nat) => 2 - i) 0 ⟨by omega, by rw [hT0]; rfl, rfl⟩ ?_
  rintro i env' σ'' ⟨hi, rfl, rfl⟩ ih
  have ih1 := ih
  refine Gs.sq (Gs.rg [0, 3, 9, 10, 11] fun K hK => ?_); simp (maxSteps:=9^7) only [go_sem]
  refine hK _ _ ?_; clear hK K
  refine Gs.sq ?_
  refine Gs.cond rfl (fun h12 => ?_) (fun h12 => ?_)
  · have hlt : i < 2 := by
      have := h12
      simp at this; omega
    refine Gs.sk ?_
    refine Gs.sq ?_
    refine Gs.bk ?_
    refine Gs.sq ?_
    rcases (show i = 0 ∨ i = 1 by omega) with rfl | rfl
    · refine Gs.rg [0, 3, 9, 10, 11] fun K hK => ?_; simp (maxSteps:=9^7) only [go_sem]
      refine ⟨⟨by decide, by decide⟩, ?_⟩
      refine hK _ _ ?_; clear hK K
      refine Gs.sq ?_
      have hw : IntKind.i64.wrap (((T 0).length : Int) + (A.length : Int)) = ((T 1).length : Int) := by
        rw [hT0, hT1, wrap_in _ (by simp only [List.length_nil]; omega) (by simp only [List.length_nil]; omega)]; simp
      have hneg : decide (((T 1).length : Int) < 0) = false := by simp
      refine Gs.rg [0, 3, 5, 9, 10, 11] fun K hK => ?_; simp (maxSteps:=9^7) only [go_sem, hw]
      refine hK _ _ ?_; clear hK K
      refine Gs.sq (Gs.rg [0, 3, 9, 10, 11] fun K hK => ?_); simp (maxSteps:=9^7) only [go_sem, hneg]
      refine hK _ _ ?_; clear hK K
      refine Gs.condF rfl ?_
      refine Gs.sk ?_
      refine Gs.ib ?_
      refine Gs.rg [0, 3, 9, 10, 11] fun K hK => ?_; simp (maxSteps:=9^7) only [go_sem]
      refine hK _ _ ?_; clear hK K
      refine Gs.rebase [0, 3, 9, 10, 11] ?_
      simp only [go_sem]
      rw [wrap_succ 0 (by omega)]
      exact ih 1 _ _ ⟨by omega, rfl, rfl⟩ (by omega)
    · refine Gs.rg [0, 3, 9, 10, 11] fun K hK => ?_; simp (maxSteps:=9^7) only [go_sem]
      refine ⟨⟨by decide, by decide⟩, ?_⟩
      refine hK _ _ ?_; clear hK K
      refine Gs.sq ?_
      have hw : IntKind.i64.wrap (((T 1).length : Int) + (M.length : Int)) = ((T 2).length : Int) := by
        rw [hT1, hT2, List.length_append, wrap_in _ (by omega) (by omega)]; omega
      have hneg : decide (((T 2).length : Int) < 0) = false := by simp
      refine Gs.rg [0, 3, 5, 9, 10, 11] fun K hK => ?_; simp (maxSteps:=9^7) only [go_sem, hw]
      refine hK _ _ ?_; clear hK K
      refine Gs.sq (Gs.rg [0, 3, 9, 10, 11] fun K hK => ?_); simp (maxSteps:=9^7) only [go_sem, hneg]
      refine hK _ _ ?_; clear hK K
      refine Gs.condF rfl ?_
      refine Gs.sk ?_
      refine Gs.ib ?_
      refine Gs.rg [0, 3, 9, 10, 11] fun K hK => ?_; simp (maxSteps:=9^7) only [go_sem]
      refine hK _ _ ?_; clear hK K
      refine Gs.rebase [0, 3, 9, 10, 11] ?_
      simp only [go_sem]
      rw [wrap_succ 1 (by omega)]
      exact ih 2 _ _ ⟨by omega, rfl, rfl⟩ (by omega)
  · have : i = 2 := by
      have := h12
      simp at this; omega
    subst this
    have hTl : (T 2).length ≤ 2000 := by rw [hT2, List.length_append]; omega
    refine Gs.exit rfl ?_
    refine Gs.sq (Gs.rg [0, 3] fun K hK => ?_); simp (maxSteps:=9^7) only [go_sem]
    refine ⟨_, Tryz.call76, (grow_file _ σ (by omega) (by omega)).mono ?_⟩
    rintro e σ1 ⟨o, hgr, rfl, rfl⟩
    simp only [go_sem]
    refine hK _ _ ?_; clear hK K
    refine Gs.sq (Gs.sq ?_)
    refine Gs.rg [0, 6] fun K hK => ?_; simp (maxSteps:=9^7) only [go_sem]
    refine hK _ _ ?_; clear hK K
    refine Gs.bk ?_
    refine Gs.rebase [6, 25, 26, 27] ?_
    simp only [go_sem]
    refine Gs.while (fun (i : Nat) env' σ'' => ∃ o : Option Nat, (i ≤ 2 ∧ GrD o 2 ((T i).map XFile.d) σ) ∧ env' = [(6, .own o 2 ((T i).map XFile.d).length), (25, .slc [.own oa 2 A.length, .own om 2 M.length]), (26, .v (.int .i64 2)), (27, .v (.int .i64 (i : Int)))] ∧ σ'' = cellsOf o 2 ((T i).map XFile.d) ++ σ) (fun (i : Nat) => 2 - i) 0 ⟨o, ⟨by omega, by rw [hT0]; exact hgr⟩, by rw [hT0]; rfl, by rw [hT0]; rfl⟩ ?_
    rintro i env' σ'' ⟨o, ⟨hi, hgr⟩, rfl, rfl⟩ ih
    have ih2 := ih
    refine Gs.sq (Gs.rg [6, 25, 26, 27] fun K hK => ?_); simp (maxSteps:=9^7) only [go_sem]
    refine hK _ _ ?_; clear hK K
    refine Gs.sq ?_
    refine Gs.cond rfl (fun h28 => ?_) (fun h28 => ?_)
    · have hlt : i < 2 := by
        have := h28
        simp at this; omega
      have ho := hgr.oget
      have hd := hgr.sdel
      have hsa := oget_grd hgr ha
      have hsm := oget_grd hgr hm
      have htk : List.take ((T i).map XFile.d).length ((T i).map XFile.d) = (T i).map XFile.d := List.take_of_length_le (Nat.le_refl _)
      refine Gs.sk ?_
      refine Gs.sq ?_
      refine Gs.bk ?_
      refine Gs.sq ?_
      rcases (show i = 0 ∨ i = 1 by omega) with rfl | rfl
      · refine Gs.rg [6, 25, 26, 27] fun K hK => ?_; simp (maxSteps:=9^7) only [go_sem]
        refine ⟨⟨by decide, by decide⟩, ?_⟩
        refine hK _ _ ?_; clear hK K
        refine Gs.rg [6, 8, 25, 26, 27] fun K hK => ?_; simp (maxSteps:=9^7) only [go_sem, ho, hd, htk, hsa, hsm, hAl, hMl, hA, hM]
        refine ⟨⟨Nat.le_refl _, plain_file A, by simp only [List.length_map, hT0, List.length_nil]; omega, by simp only [List.length_map, hT0, List.length_nil]; omega⟩, fun ob hz hf => ?_⟩
        refine hK _ _ ?_; clear hK K
        refine Gs.ib ?_
        refine Gs.rg [6, 25, 26, 27] fun K hK => ?_; simp (maxSteps:=9^7) only [go_sem]
        refine hK _ _ ?_; clear hK K
        refine Gs.rebase [6, 25, 26, 27] ?_
        simp only [go_sem]
        have e1 : (T 0).map XFile.d ++ A.map XFile.d = (T 1).map XFile.d := by rw [hT0, hT1]; rfl
        rw [wrap_succ 0 (by omega), e1]
        exact ih 1 _ _ ⟨ob, ⟨by omega, by rw [← e1]; exact hgr.app hz hf⟩, rfl, rfl⟩ (by omega)
      · refine Gs.rg [6, 25, 26, 27] fun K hK => ?_; simp (maxSteps:=9^7) only [go_sem]
        refine ⟨⟨by decide, by decide⟩, ?_⟩
        refine hK _ _ ?_; clear hK K
        refine Gs.rg [6, 8, 25, 26, 27] fun K hK => ?_; simp (maxSteps:=9^7) only [go_sem, ho, hd, htk, hsa, hsm, hAl, hMl, hA, hM]
        refine ⟨⟨Nat.le_refl _, plain_file M, by simp only [List.length_map, hT1]; omega, by simp only [List.length_map, hT1]; omega⟩, fun ob hz hf => ?_⟩
        refine hK _ _ ?_; clear hK K
        refine Gs.ib ?_
        refine Gs.rg [6, 25, 26, 27] fun K hK => ?_; simp (maxSteps:=9^7) only [go_sem]
        refine hK _ _ ?_; clear hK K
        refine Gs.rebase [6, 25, 26, 27] ?_
        simp only [go_sem]
        have e1 : (T 1).map XFile.d ++ M.map XFile.d = (T 2).map XFile.d := by rw [hT1, hT2, List.map_append]
        rw [wrap_succ 1 (by omega), e1]
        exact ih 2 _ _ ⟨ob, ⟨by omega, by rw [← e1]; exact hgr.app hz hf⟩, rfl, rfl⟩ (by omega)
    · have : i = 2 := by
        have := h28
        simp at this; omega
      subst this
      rw [hT2] at hgr ⊢
      refine Gs.exit rfl ?_
      refine Gs.sq (Gs.rg [6] fun K hK => ?_); simp (maxSteps:=9^7) only [go_sem]
      refine hK _ _ ?_; clear hK K
      refine Gs.ret hC Tryz.func41 (by simp [go_sem]) ?_
      simp only [go_sem]
      exact ⟨o, hgr, by rw [List.length_map], rfl⟩
def edgeOf (g : XGr) (n : Nat) : XEdge := g.man.edges.getD n ⟨[], [], [], [], ⟨#[]⟩, ⟨#[]⟩⟩
def filesFor (g : XGr) (l made : List XFile) (n : Nat) : List XFile := kept (farB g n) (kept (ownMadeB g) l ++ made)
def evalStep (g : XGr) (l : List XFile) (n : Nat) (made : List XFile) : Nat ⊕ List XFile :=
  if (edgeOf g n).needs.any (missB g l) = true then .inl 6
  else match cookM (edgeOf g n).cmd ((edgeOf g n).ins ++ (edgeOf g n).impl) (filesFor g l made n) with
    | none => .inl 13
    | some x => if ((x.dep.toList == (edgeOf g n).dep.toList) && fitB (edgeOf g n).outs x.outs) = true then .inr (made ++ x.outs) else .inl 13
def evalGo (g : XGr) (l : List XFile) : List Nat → List XFile → Nat ⊕ List XFile
  | [], made => .inr made
  | n :: r, made => match evalStep g l n made with
    | .inl c => .inl c
    | .inr made' => evalGo g l r made'
def targetsOr (g : XGr) (ts : List ByteArray) : List ByteArray := if ts.length = 0 then targetsL g else ts
def evalG (g : XGr) (l : List XFile) (ts : List ByteArray) : Nat ⊕ List XFile :=
  if wrongB g = true then .inl 5 else match planL g (targetsOr g ts) with
    | .inl c => .inl c
    | .inr plan => if (targetsOr g ts).any (missB g l) = true then .inl 6 else evalGo g l plan []
def evalM (m : XMan) (l : List XFile) (ts : List ByteArray) : Nat ⊕ List XFile := match newG m with
  | .inl c => .inl c
  | .inr g => evalG g l ts
theorem orderF_ok (ah : List (List Nat)) (sm : List Nat) : ∀ (f : Nat) (out : List Nat), (∀ n ∈ out, n ∈ sm) → (∀ n ∈ orderF ah sm f out, n ∈ sm) ∧ (orderF ah sm f out).length ≤ out.length + f
  | 0, out, h => ⟨h, Nat.le_refl _⟩
  | f + 1, out, h => by
    unfold orderF
    split
    · rename_i n hn
      have hm := List.mem_of_find?_eq_some hn
      obtain ⟨h1, h2⟩ := orderF_ok ah sm f (out ++ [n]) (fun k hk => by
        rcases List.mem_append.1 hk with hk | hk
        · exact h k hk
        · rw [List.mem_singleton.1 hk]; exact hm)
      refine ⟨h1, ?_⟩
      rw [List.length_append] at h2
      simp at h2
      omega
    · exact ⟨h, by omega⟩
theorem planL_ok {g : XGr} (hg : g.Ok) {ts : List ByteArray} {plan : List Nat} (h : planL g ts = .inr plan) : plan.length ≤ g.man.edges.length ∧ ∀ n ∈ plan, n < g.man.edges.length := by
  unfold planL at h
  split at h
  · cases h
  · cases h
    obtain ⟨h1, h2⟩ := reachedS_ok g.ah (fun l hl => (hg.ab l hl).2) (madeL g.mks ts) (fun n hn => by rw [hg.al]; exact madeL_lt hg.kb ts n hn)
    obtain ⟨h3, h4⟩ := orderF_ok g.ah (reachedS g.ah (madeL g.mks ts)) (reachedS g.ah (madeL g.mks ts)).length [] (fun n hn => by cases hn)
    rw [hg.al] at h1 h2
    refine ⟨?_, fun n hn => h2 n (h3 n hn)⟩
    unfold orderL
    simp at h4
    omega
end Go.Ab.S16
namespace Go.Ab.S16
open Go Go.Proofs
inductive Rch (ah : List (List Nat)) (frm : List Nat) : Nat → Prop
  | base {n : Nat} : n ∈ frm → Rch ah frm n
  | step {k n : Nat} : Rch ah frm k → n ∈ ah.getD k [] → Rch ah frm n
theorem bfs_sound (ah : List (List Nat)) (frm : List Nat) : ∀ (f k : Nat) (met : List Nat), (∀ n ∈ met, Rch ah frm n) → ∀ n ∈ bfsF ah f k met, Rch ah frm n
  | 0, _, _, h => h
  | f + 1, k, met, h => by
    unfold bfsF
    split
    · rename_i hk
      refine bfs_sound ah frm f (k + 1) _ fun n hn => ?_
      rcases (visitL_mem _ _ n).1 hn with hn | hn
      · exact h n hn
      · exact .step (h _ (List.getElem_mem hk)) hn
    · exact h
theorem bfs_closed (ah : List (List Nat)) (hah : ∀ l ∈ ah, ∀ n ∈ l, n < ah.length) : ∀ (f k : Nat) (met : List Nat), met.Nodup → (∀ n ∈ met, n < ah.length) → k ≤ met.length → ah.length + 1 ≤ f + k → (∀ n ∈ met.take k, ∀ j ∈ ah.getD n [], j ∈ met) → (∀ n ∈ met, n ∈ bfsF ah f k met) ∧ ∀ n ∈ bfsF ah f k met, ∀ j ∈ ah.getD n [], j ∈ bfsF ah f k met
  | 0, k, met, hn, hm, hk, hf, hc => by
    have := nodup_sub_len hn (m := List.range ah.length) (fun x hx => List.mem_range.2 (hm x hx))
    rw [List.length_range] at this
    omega
  | f + 1, k, met, hn, hm, hk, hf, hc => by
    unfold bfsF
    split
    · rename_i hlt
      have hmk := hm _ (List.getElem_mem hlt)
      have hg : ah.getD met[k] [] = ah[met[k]] := getD_lt ah met[k] [] hmk
      have hg2 := hah _ (List.getElem_mem hmk)
      obtain ⟨r, hr⟩ := visitL_pre (ah.getD met[k] []) met
      have hm' : ∀ n ∈ visitL met (ah.getD met[k] []), n < ah.length := fun n hn => by
        rcases (visitL_mem _ _ n).1 hn with hn | hn
        · exact hm n hn
        · rw [hg] at hn; exact hg2 n hn
      have ih := bfs_closed ah hah f (k + 1) (visitL met (ah.getD met[k] [])) (visitL_nodup _ _ hn) hm' (Nat.le_trans hlt (visitL_le _ _)) (by omega) (fun n hn j hj => by
        rw [hr, List.take_append_of_le_length hlt, List.take_succ_eq_append_getElem hlt] at hn
        rcases List.mem_append.1 hn with hn | hn
        · exact (visitL_mem _ _ j).2 (.inl (hc n hn j hj))
        · rw [List.mem_singleton.1 hn] at hj
          exact (visitL_mem _ _ j).2 (.inr hj))
      exact ⟨fun n hn => ih.1 n ((visitL_mem _ _ n).2 (.inl hn)), ih.2⟩
    · have hke : k = met.length := by omega
      rw [hke, List.take_length] at hc
      exact ⟨fun n h => h, hc⟩
theorem reachedS_mem {ah : List (List Nat)} (hah : ∀ l ∈ ah, ∀ n ∈ l, n < ah.length) {frm : List Nat} (hf : ∀ n ∈ frm, n < ah.length) (n : Nat) : n ∈ reachedS ah frm ↔ Rch ah frm n := by
  have hp : (reachedS ah frm).Perm (reachedL ah frm) := isort_perm _
  rw [hp.mem_iff]
  have hm : ∀ n ∈ visitL [] frm, n ∈ frm := fun n hn => by
    rcases (visitL_mem _ _ n).1 hn with h | h
    · cases h
    · exact h
  constructor
  · exact bfs_sound ah frm _ _ _ (fun n hn => .base (hm n hn)) n
  · intro h
    obtain ⟨h1, h2⟩ := bfs_closed ah hah (ah.length + 1) 0 (visitL [] frm) (visitL_nodup _ _ List.nodup_nil) (fun n hn => hf n (hm n hn)) (Nat.zero_le _) (by omega) (fun n hn => by cases hn)
    induction h with
    | base h => exact h1 _ ((visitL_mem _ _ _).2 (.inr h))
    | step _ h ih => exact h2 _ ih _ h
theorem reachedS_nodup {ah : List (List Nat)} (hah : ∀ l ∈ ah, ∀ n ∈ l, n < ah.length) {frm : List Nat} (hf : ∀ n ∈ frm, n < ah.length) : (reachedS ah frm).Nodup := by
  have hp : (reachedS ah frm).Perm (reachedL ah frm) := isort_perm _
  exact hp.nodup_iff.2 (reachedL_ok ah hah frm hf).1
def Topo (ah : List (List Nat)) (out : List Nat) : Prop := ∀ p n r, out = p ++ n :: r → ∀ k ∈ ah.getD n [], k ∈ p
theorem Topo.snoc {ah : List (List Nat)} {out : List Nat} {n : Nat} (h : Topo ah out) (hn : ∀ k ∈ ah.getD n [], k ∈ out) : Topo ah (out ++ [n]) := by
  intro p m r he k hk
  rcases List.eq_nil_or_concat r with rfl | ⟨r', x, rfl⟩
  · obtain ⟨rfl, h2⟩ := List.append_inj' he rfl
    rw [List.cons.injEq] at h2
    rw [← h2.1] at hk
    exact hn k hk
  · have he' : out ++ [n] = (p ++ m :: r') ++ [x] := by rw [he]; simp
    obtain ⟨h1, _⟩ := List.append_inj' he' rfl
    exact h p m r' h1 k hk
theorem Topo.back {ah : List (List Nat)} {p r : List Nat} (h : Topo ah (p ++ r)) : ∀ k ∈ p, ∀ j ∈ ah.getD k [], j ∈ p := by
  intro k hk j hj
  obtain ⟨p1, p2, rfl⟩ := List.append_of_mem hk
  have := h p1 k (p2 ++ r) (by simp) j hj
  exact List.mem_append.2 (.inl this)
theorem Topo.ahead {ah : List (List Nat)} {p r : List Nat} {n : Nat} (h : Topo ah (p ++ n :: r)) {k : Nat} (hk : Rch ah (ah.getD n []) k) : k ∈ p := by
  induction hk with
  | base hb => exact h p n r rfl _ hb
  | step _ hj ih => exact h.back _ ih _ hj
theorem orderF_topo (ah : List (List Nat)) (sm : List Nat) : ∀ (f : Nat) (out : List Nat), out.Nodup → Topo ah out → (orderF ah sm f out).Nodup ∧ Topo ah (orderF ah sm f out)
  | 0, out, h1, h2 => ⟨h1, h2⟩
  | f + 1, out, h1, h2 => by
    unfold orderF
    split
    · rename_i n hn
      have hr := List.find?_some hn
      unfold ready at hr
      rw [Bool.and_eq_true, Bool.not_eq_true', List.all_eq_true] at hr
      refine orderF_topo ah sm f (out ++ [n]) ?_ (h2.snoc fun k hk => by simpa using hr.2 k hk)
      rw [List.nodup_append]
      exact ⟨h1, by simp, fun a ha b hb => by simp only [List.mem_singleton] at hb; rw [hb]; exact fun e => by have := hr.1; rw [← e, List.contains_iff_mem.2 ha] at this; cases this⟩
    · exact ⟨h1, h2⟩
theorem full_of_len {l m : List Nat} (hl : l.Nodup) (hs : ∀ x ∈ l, x ∈ m) (hle : m.length ≤ l.length) : ∀ x ∈ m, x ∈ l := fun x hx => by
  by_cases h : x ∈ l
  · exact h
  · have := nodup_sub_len (l := x :: l) (m := m) (List.nodup_cons.2 ⟨h, hl⟩) (fun y hy => by
      rcases List.mem_cons.1 hy with rfl | hy
      · exact hx
      · exact hs y hy)
    simp at this; omega
theorem outsGo_all {i : Nat} : ∀ {outs : List ByteArray} {mks mks' : List (ByteArray × Nat)}, outsGo mks i outs = some mks' → mks' = mks ++ outs.map fun f => (f, i)
  | [], mks, mks', h => by
    have : mks = mks' := by simpa [outsGo] using h
    subst this; simp
  | f :: r, mks, mks', h => by
    have h1 := h
    rw [show f :: r = (f :: r).take (0 + 1) ++ r by rfl] at h1
    unfold outsGo at h1
    rw [List.foldl_append] at h1
    simp only [Nat.zero_add, List.take_succ_cons, List.take_zero, List.foldl_cons, List.foldl_nil, Option.bind_some] at h1
    split at h1
    · rw [foldl_none (fun m f => if (lookL m f).isSome then none else some (m ++ [(f, i)]))] at h1; cases h1
    · rw [outsGo_all (outs := r) (mks := mks ++ [(f, i)]) (mks' := mks') h1]
      simp
def mksTo (edges : List XEdge) (n : Nat) : List (ByteArray × Nat) := (List.range n).flatMap fun i => (edges.getD i ⟨[], [], [], [], ⟨#[]⟩, ⟨#[]⟩⟩).outs.map fun f => (f, i)
theorem allTo_all {edges : List XEdge} : ∀ {n : Nat}, n ≤ edges.length → ∀ {mks : List (ByteArray × Nat)}, allTo edges n = some mks → mks = mksTo edges n
  | 0, _, mks, h => by
    have : mks = [] := by simpa [allTo] using h.symm
    subst this; rfl
  | n + 1, hn, mks, h => by
    rw [allTo_succ edges n (by omega)] at h
    cases hm : allTo edges n with
    | none => rw [hm] at h; cases h
    | some m2 =>
      rw [hm, Option.bind_some] at h
      rw [outsGo_all h, allTo_all (by omega) hm]
      unfold mksTo
      rw [List.range_succ, List.flatMap_append]
      simp only [List.flatMap_cons, List.flatMap_nil, List.append_nil]
      rw [getD_lt edges n _ (by omega)]
theorem lookL_iff {mks : List (ByteArray × Nat)} (hn : (mks.map (·.1)).Nodup) (f : ByteArray) (n : Nat) : lookL mks f = some n ↔ (f, n) ∈ mks := by
  constructor
  · intro h
    obtain ⟨p, hp, rfl, rfl⟩ := lookL_mem h
    exact hp
  · intro h
    induction mks with
    | nil => cases h
    | cons p r ih =>
      rw [List.map_cons, List.nodup_cons] at hn
      unfold lookL
      rw [List.find?_cons]
      rcases List.mem_cons.1 h with rfl | h
      · simp
      · cases hf : (f == p.1) with
        | true =>
          rw [beq_iff_eq] at hf
          exact absurd (List.mem_map.2 ⟨(f, n), h, hf⟩) hn.1
        | false => exact ih hn.2 h
theorem madeL_mem {mks : List (ByteArray × Nat)} (fs : List ByteArray) (n : Nat) : n ∈ madeL mks fs ↔ ∃ f ∈ fs, lookL mks f = some n := by
  have key : ∀ i, i ≤ fs.length → (n ∈ madeL mks (fs.take i) ↔ ∃ f ∈ fs.take i, lookL mks f = some n) := by
    intro i
    induction i with
    | zero => intro _; simp [madeL]
    | succ i ih =>
      intro hi
      have ih := ih (by omega)
      rw [madeL_succ mks fs i (by omega), List.take_succ_eq_append_getElem (by omega)]
      have hx : (∃ f ∈ fs.take i ++ [fs[i]], lookL mks f = some n) ↔ (∃ f ∈ fs.take i, lookL mks f = some n) ∨ lookL mks fs[i] = some n := by
        constructor
        · rintro ⟨f, hf, h⟩
          rcases List.mem_append.1 hf with hf | hf
          · exact .inl ⟨f, hf, h⟩
          · rw [List.mem_singleton.1 hf] at h; exact .inr h
        · rintro (⟨f, hf, h⟩ | h)
          · exact ⟨f, List.mem_append.2 (.inl hf), h⟩
          · exact ⟨_, List.mem_append.2 (.inr (List.mem_singleton.2 rfl)), h⟩
      rw [hx, ← ih]
      split
      · rename_i m hm
        rw [hm]
        split
        · rename_i hc
          rw [List.contains_iff_mem] at hc
          constructor
          · exact .inl
          · rintro (h | h)
            · exact h
            · cases h; exact hc
        · rw [List.mem_append, List.mem_singleton, Option.some.injEq]
          constructor
          · rintro (h | h)
            · exact .inl h
            · exact .inr h.symm
          · rintro (h | h)
            · exact .inl h
            · exact .inr h.symm
      · rename_i hm
        rw [hm]
        simp
  have := key fs.length (Nat.le_refl _)
  rwa [List.take_length] at this
structure XGr.Fine (g : XGr) : Prop where
  ah : g.ah = g.man.edges.map fun e => madeL g.mks e.needs
  nd : (g.mks.map (·.1)).Nodup
  mkr : ∀ f n, lookL g.mks f = some n ↔ f ∈ outsOf g.man n
  od : ∀ n, (outsOf g.man n).Nodup
  tp : ∃ A, Topo g.ah A ∧ ∀ n, n < g.man.edges.length → n ∈ A
  al : g.ah.length = g.man.edges.length
  ab : ∀ l ∈ g.ah, ∀ n ∈ l, n < g.ah.length
  kb : ∀ p ∈ g.mks, p.2 < g.ah.length
theorem mksTo_mem (m : XMan) (f : ByteArray) (n : Nat) : (f, n) ∈ mksTo m.edges m.edges.length ↔ f ∈ outsOf m n := by
  unfold mksTo outsOf
  rw [List.mem_flatMap]
  constructor
  · rintro ⟨i, hi, h⟩
    obtain ⟨x, hx, he⟩ := List.mem_map.1 h
    rw [Prod.mk.injEq] at he
    obtain ⟨rfl, rfl⟩ := he
    have hi := List.mem_range.1 hi
    rw [List.getElem?_eq_getElem hi]
    rw [getD_lt _ _ _ hi] at hx
    exact hx
  · intro h
    by_cases hi : n < m.edges.length
    · rw [List.getElem?_eq_getElem hi] at h
      exact ⟨n, List.mem_range.2 hi, List.mem_map.2 ⟨f, by rw [getD_lt _ _ _ hi]; exact h, rfl⟩⟩
    · rw [List.getElem?_eq_none (by omega)] at h
      cases h
theorem mksTo_sub (edges : List XEdge) (n : Nat) (hn : n < edges.length) : (edges[n].outs).Sublist ((mksTo edges edges.length).map (·.1)) := by
  unfold mksTo
  rw [List.map_flatMap]
  have h1 : (edges[n].outs) = ((edges.getD n ⟨[], [], [], [], ⟨#[]⟩, ⟨#[]⟩⟩).outs.map fun f => (f, n)).map (·.1) := by
    rw [getD_lt _ _ _ hn, List.map_map]
    exact (List.map_id _).symm
  rw [h1]
  obtain ⟨a, b, hab⟩ := List.append_of_mem (List.mem_range.2 hn)
  rw [hab, List.flatMap_append, List.flatMap_cons]
  exact (List.sublist_append_left _ _).trans (List.sublist_append_right _ _)
theorem newG_fine {m : XMan} (hs : ∀ e ∈ m.edges, e.small) {g : XGr} (h : newG m = .inr g) : g.Fine ∧ g.man = m := by
  unfold newG at h
  split at h
  · cases h
  · rename_i mks hm
    dsimp only at h
    split at h
    · cases h
    · rename_i hlen
      cases h
      obtain ⟨h1, _⟩ := allTo_ok hs m.edges.length (Nat.le_refl _) mks hm
      have hmk := allTo_all (Nat.le_refl _) hm
      have hlt := madeL_lt h1.lt
      refine ⟨⟨rfl, h1.nd, fun f n => ?_, fun n => ?_, ?_, by simp, fun l hl n hn => ?_, fun p hp => by have := h1.lt p hp; simpa using this⟩, rfl⟩
      · rw [lookL_iff h1.nd]
        show (f, n) ∈ mks ↔ _
        rw [hmk]
        exact mksTo_mem m f n
      · show (outsOf m n).Nodup
        unfold outsOf
        by_cases hn : n < m.edges.length
        · rw [List.getElem?_eq_getElem hn]
          refine List.Nodup.sublist (mksTo_sub m.edges n hn) ?_
          rw [← hmk]
          exact h1.nd
        · rw [List.getElem?_eq_none (by omega)]
          exact List.nodup_nil
      · obtain ⟨t1, t2⟩ := orderF_topo (m.edges.map fun e => madeL mks e.needs) (List.range m.edges.length) (List.range m.edges.length).length [] List.nodup_nil (fun p n r he => by simp at he)
        refine ⟨_, t2, fun n hn => ?_⟩
        refine full_of_len t1 (orderF_ok _ _ _ [] (fun n hn => by cases hn)).1 ?_ n (List.mem_range.2 hn)
        exact Nat.le_trans (Nat.le_of_eq List.length_range) (Nat.not_lt.1 hlen)
      · obtain ⟨e, he, rfl⟩ := List.mem_map.1 hl
        simpa using hlt e.needs n hn
theorem Rch.lt {g : XGr} (hg : g.Fine) {frm : List Nat} (hf : ∀ n ∈ frm, n < g.ah.length) {n : Nat} (h : Rch g.ah frm n) : n < g.ah.length := by
  induction h with
  | base h => exact hf _ h
  | step h1 h2 ih =>
    rw [getD_lt _ _ _ ih] at h2
    exact hg.ab _ (List.getElem_mem ih) _ h2
theorem ahead_lt {g : XGr} (hg : g.Fine) (n : Nat) : ∀ k ∈ g.ah.getD n [], k < g.ah.length := fun k hk => by
  by_cases hn : n < g.ah.length
  · rw [getD_lt _ _ _ hn] at hk
    exact hg.ab _ (List.getElem_mem hn) _ hk
  · rw [List.getD_eq_getElem?_getD, List.getElem?_eq_none (by omega)] at hk
    cases hk
theorem above_mem {g : XGr} (hg : g.Fine) (n : Nat) (f : ByteArray) : f ∈ aboveL g n ↔ ∃ k, Rch g.ah (g.ah.getD n []) k ∧ f ∈ outsOf g.man k := by
  unfold aboveL aheadL
  rw [sortB_mem, List.mem_flatMap]
  constructor
  · rintro ⟨k, hk, h⟩
    exact ⟨k, (reachedS_mem hg.ab (ahead_lt hg n) k).1 hk, h⟩
  · rintro ⟨k, hk, h⟩
    exact ⟨k, (reachedS_mem hg.ab (ahead_lt hg n) k).2 hk, h⟩
def putR (f : Nat → Nat → Bool) (i j : Nat) : Nat → Nat → Bool := fun a c => if a = i ∧ c = j then true else f a c
def wJ (k i : Nat) (f : Nat → Nat → Bool) : Nat → Nat → Nat → Bool
  | 0 => f
  | m + 1 => if (wJ k i f m i k && wJ k i f m k m) = true then putR (wJ k i f m) i m else wJ k i f m
def wI (n k : Nat) (f : Nat → Nat → Bool) : Nat → Nat → Nat → Bool
  | 0 => f
  | m + 1 => wJ k m (wI n k f m) n
def wK (n : Nat) (f : Nat → Nat → Bool) : Nat → Nat → Nat → Bool
  | 0 => f
  | m + 1 => wI n m (wK n f m) n
theorem wJ_eq (k i : Nat) (f : Nat → Nat → Bool) : ∀ m a c, wJ k i f m a c = (f a c || (decide (a = i ∧ c < m) && (f a k && f k c)))
  | 0, a, c => by simp [wJ]
  | m + 1, a, c => by
    have e1 : wJ k i f m i k = f i k := by
      rw [wJ_eq k i f m]
      cases f i k <;> simp
    have e2 : wJ k i f m k m = f k m := by
      rw [wJ_eq k i f m]
      by_cases h : k = i ∧ m < m
      · omega
      · simp
    unfold wJ
    rw [e1, e2]
    by_cases hac : a = i ∧ c = m
    · obtain ⟨rfl, rfl⟩ := hac
      have h1 : wJ k a f c a c = f a c := by
        rw [wJ_eq k a f c]; simp
      split
      · rename_i h
        unfold putR
        rw [if_pos ⟨rfl, rfl⟩]
        simp only [Bool.and_eq_true] at h
        simp [h.1, h.2]
      · rename_i h
        rw [h1]
        have : (f a k && f k c) = false := by simpa using h
        rw [this]; simp
    · have h2 : decide (a = i ∧ c < m + 1) = decide (a = i ∧ c < m) := by
        congr 1
        exact propext ⟨fun h => ⟨h.1, by have := fun e => hac ⟨h.1, e⟩; omega⟩, fun h => ⟨h.1, by omega⟩⟩
      rw [h2, ← wJ_eq k i f m]
      split
      · unfold putR
        rw [if_neg hac]
      · rfl
theorem wI_eq (n k : Nat) (f : Nat → Nat → Bool) (hk : k < n) : ∀ m a c, wI n k f m a c = (f a c || (decide (a < m ∧ c < n) && (f a k && f k c)))
  | 0, a, c => by simp [wI]
  | m + 1, a, c => by
    have e1 : ∀ a, wI n k f m a k = f a k := fun a => by
      rw [wI_eq n k f hk m]
      cases f a k <;> simp
    have e2 : ∀ c, wI n k f m k c = f k c := fun c => by
      rw [wI_eq n k f hk m]
      cases h : f k c <;> simp
    unfold wI
    rw [wJ_eq, e1, e2, wI_eq n k f hk m]
    by_cases ham : a = m
    · subst ham
      have d1 : decide (a < a ∧ c < n) = false := by simp
      have d2 : decide (a < a + 1 ∧ c < n) = decide (a = a ∧ c < n) := by simp
      rw [d1, d2]; simp
    · have d1 : decide (a = m ∧ c < n) = false := by simp [ham]
      have d2 : decide (a < m + 1 ∧ c < n) = decide (a < m ∧ c < n) := by
        congr 1
        exact propext ⟨fun h => ⟨by omega, h.2⟩, fun h => ⟨by omega, h.2⟩⟩
      rw [d1, d2]; simp
theorem wK_succ (n : Nat) (f : Nat → Nat → Bool) (m : Nat) (hm : m < n) {a c : Nat} (ha : a < n) (hc : c < n) : wK n f (m + 1) a c = (wK n f m a c || (wK n f m a m && wK n f m m c)) := by
  rw [wK, wI_eq n m _ hm, decide_eq_true (show a < n ∧ c < n from ⟨ha, hc⟩), Bool.true_and]
theorem wK_le (n : Nat) (f : Nat → Nat → Bool) : ∀ m, m ≤ n → ∀ {a c : Nat}, a < n → c < n → f a c = true → wK n f m a c = true
  | 0, _, _, _, _, _, h => h
  | m + 1, hm, _, _, ha, hc, h => by rw [wK_succ n f m (by omega) ha hc, wK_le n f m (by omega) ha hc h]; rfl
theorem wK_trans (n : Nat) (f : Nat → Nat → Bool) : ∀ m, m ≤ n → ∀ {a b c : Nat}, b < m → a < n → c < n → wK n f m a b = true → wK n f m b c = true → wK n f m a c = true
  | 0, _, _, _, _, h, _, _, _, _ => by omega
  | m + 1, hm, a, b, c, hb, ha, hc, h1, h2 => by
    have hmn : m < n := by omega
    have ih := fun {a b c : Nat} (hb : b < m) (ha : a < n) (hc : c < n) => wK_trans n f m (by omega) (a := a) (b := b) (c := c) hb ha hc
    rw [wK_succ n f m hmn ha (by omega), Bool.or_eq_true, Bool.and_eq_true] at h1
    rw [wK_succ n f m hmn (by omega) hc, Bool.or_eq_true, Bool.and_eq_true] at h2
    rw [wK_succ n f m hmn ha hc, Bool.or_eq_true, Bool.and_eq_true]
    by_cases hbm : b = m
    · subst hbm
      have g1 : wK n f b a b = true := by rcases h1 with h | h; exact h; exact h.1
      have g2 : wK n f b b c = true := by rcases h2 with h | h; exact h; exact h.2
      exact .inr ⟨g1, g2⟩
    · have hb' : b < m := by omega
      rcases h1 with h1 | h1
      · rcases h2 with h2 | h2
        · exact .inl (ih hb' ha hc h1 h2)
        · exact .inr ⟨ih hb' ha hmn h1 h2.1, h2.2⟩
      · rcases h2 with h2 | h2
        · exact .inr ⟨h1.1, ih hb' hmn hc h1.2 h2⟩
        · exact .inr ⟨h1.1, h2.2⟩
theorem wK_sound (n : Nat) (f : Nat → Nat → Bool) {T : Nat → Nat → Prop} (h0 : ∀ a c, f a c = true → T a c) (ht : ∀ a b c, T a b → T b c → T a c) : ∀ m, m ≤ n → ∀ {a c : Nat}, a < n → c < n → wK n f m a c = true → T a c
  | 0, _, a, c, _, _, h => h0 a c h
  | m + 1, hm, a, c, ha, hc, h => by
    rw [wK_succ n f m (by omega) ha hc, Bool.or_eq_true, Bool.and_eq_true] at h
    rcases h with h | h
    · exact wK_sound n f h0 ht m (by omega) ha hc h
    · exact ht _ _ _ (wK_sound n f h0 ht m (by omega) ha (by omega) h.1) (wK_sound n f h0 ht m (by omega) (by omega) hc h.2)
def edgeN (m : XMan) (n : Nat) : XEdge := m.edges.getD n ⟨[], [], [], [], ⟨#[]⟩, ⟨#[]⟩⟩
def need1 (m : XMan) (a c : Nat) : Bool := (edgeN m a).needs.any fun f => decide (makerI m f = (c : Int))
def belB (m : XMan) (a c : Nat) : Bool := wK m.edges.length (need1 m) m.edges.length a c
theorem toList_beq (a b : ByteArray) : (a.toList == b.toList) = (a == b) := by
  by_cases h : a = b
  · subst h; simp
  · have h1 : (a == b) = false := by
      cases hh : (a == b) with
      | false => rfl
      | true => exact absurd ((bytes_beq a b).1 hh) h
    rw [h1]
    cases hh : (a.toList == b.toList) with
    | false => rfl
    | true =>
      rw [beq_iff_eq, tl_data, tl_data] at hh
      exact absurd (by rw [← lB_bL a, ← lB_bL b]; exact congrArg lB hh) h
theorem compact_mem {α : Type} [DecidableEq α] [Inhabited α] (zs : List α) (x : α) : x ∈ Lib.compact zs ↔ x ∈ zs := by
  refine ⟨fun h => (compact_sub zs).subset h, fun h => ?_⟩
  obtain ⟨i, hi, rfl⟩ := List.getElem_of_mem h
  have key : ∀ i, i < zs.length → zs.toArray[i]! ∈ Lib.compact zs := by
    intro i
    induction i with
    | zero =>
      intro hi
      unfold Lib.compact Lib.compactUpTo
      exact List.mem_map.2 ⟨0, List.mem_filter.2 ⟨List.mem_range.2 hi, by simp [Lib.keeps]⟩, rfl⟩
    | succ i ih =>
      intro hi
      cases hk : Lib.keeps zs.toArray (i + 1) with
      | true =>
        unfold Lib.compact Lib.compactUpTo
        exact List.mem_map.2 ⟨i + 1, List.mem_filter.2 ⟨List.mem_range.2 hi, hk⟩, rfl⟩
      | false =>
        unfold Lib.keeps at hk
        have : zs.toArray[i + 1]! = zs.toArray[i]! := by
          simpa using hk
        rw [this]
        exact ih (by omega)
  have := key i hi
  simpa [hi] using this
theorem usedL_mem (m : XMan) (f : ByteArray) : f ∈ usedL m ↔ ∃ e ∈ m.edges, f ∈ e.needs := by
  have h1 : f ∈ usedL m ↔ bL f ∈ (usedL m).map bL := by
    rw [List.mem_map]
    constructor
    · intro h; exact ⟨f, h, rfl⟩
    · rintro ⟨y, hy, he⟩
      have : y = f := by rw [← lB_bL y, ← lB_bL f, he]
      rw [← this]; exact hy
  rw [h1]
  unfold usedL
  rw [compactB_map, compact_mem, List.mem_map]
  constructor
  · rintro ⟨y, hy, he⟩
    have hyf : y = f := by rw [← lB_bL y, ← lB_bL f, he]
    rw [sortB_mem, List.mem_flatMap] at hy
    obtain ⟨e, he, h⟩ := hy
    exact ⟨e, he, hyf ▸ h⟩
  · rintro ⟨e, he, h⟩
    exact ⟨f, (sortB_mem _ _).2 (List.mem_flatMap.2 ⟨e, he, h⟩), rfl⟩
theorem sourcesL_mem (g : XGr) (f : ByteArray) : f ∈ sourcesL g ↔ (∃ e ∈ g.man.edges, f ∈ e.needs) ∧ (lookL g.mks f).isSome = false := by
  unfold sourcesL kept
  rw [List.mem_filter, usedL_mem]
  simp
theorem outsL_mem {g : XGr} (hg : g.Fine) (f : ByteArray) : f ∈ outsL g ↔ (lookL g.mks f).isSome = true := by
  unfold outsL
  rw [sortB_mem, List.mem_map, Option.isSome_iff_exists]
  constructor
  · rintro ⟨p, hp, rfl⟩
    exact ⟨p.2, (lookL_iff hg.nd _ _).2 hp⟩
  · rintro ⟨n, hn⟩
    exact ⟨(f, n), (lookL_iff hg.nd _ _).1 hn, rfl⟩
theorem inB_mem (l : List ByteArray) (f : ByteArray) : inB l f = true ↔ f ∈ l := by
  unfold inB
  rw [List.any_eq_true]
  constructor
  · rintro ⟨x, hx, h⟩
    rw [toList_beq] at h
    rw [← (bytes_beq _ _).1 h]; exact hx
  · intro h
    exact ⟨f, h, by rw [beq_iff_eq]⟩
theorem mksTo_names (edges : List XEdge) : ∀ n, n ≤ edges.length → (mksTo edges n).map (·.1) = (edges.take n).flatMap XEdge.outs
  | 0, _ => rfl
  | n + 1, h => by
    have ih := mksTo_names edges n (by omega)
    unfold mksTo at ih ⊢
    rw [List.range_succ, List.flatMap_append, List.map_append, ih, List.take_succ_eq_append_getElem (by omega), List.flatMap_append]
    simp only [List.flatMap_cons, List.flatMap_nil, List.append_nil]
    rw [getD_lt edges n _ (by omega), List.map_map]
    congr 1
    exact List.map_id _
theorem outsGo_some {i : Nat} : ∀ {outs : List ByteArray} {mks : List (ByteArray × Nat)}, (mks.map (·.1) ++ outs).Nodup → outsGo mks i outs = some (mks ++ outs.map fun f => (f, i))
  | [], mks, _ => by simp [outsGo]
  | f :: r, mks, h => by
    have hf : (lookL mks f).isSome = false := by
      cases hl : lookL mks f with
      | none => rfl
      | some n =>
        obtain ⟨p, hp, _, rfl⟩ := lookL_mem hl
        exact absurd rfl ((List.nodup_append.1 h).2.2 _ (List.mem_map_of_mem (f := (·.1)) hp) _ (List.mem_cons_self ..))
    have ih := outsGo_some (i := i) (outs := r) (mks := mks ++ [(f, i)]) (by rw [List.map_append]; simpa using h)
    unfold outsGo at ih ⊢
    rw [List.foldl_cons, Option.bind_some, if_neg (by rw [hf]; decide), ih]
    simp
theorem allTo_some {edges : List XEdge} : ∀ {n : Nat}, n ≤ edges.length → ((edges.take n).flatMap XEdge.outs).Nodup → allTo edges n = some (mksTo edges n)
  | 0, _, _ => rfl
  | n + 1, hn, h => by
    have h2 := h
    rw [List.take_succ_eq_append_getElem (by omega), List.flatMap_append] at h2
    simp only [List.flatMap_cons, List.flatMap_nil, List.append_nil] at h2
    rw [allTo_succ edges n (by omega), allTo_some (by omega) (List.nodup_append.1 h2).1, Option.bind_some, outsGo_some (by rw [mksTo_names edges n (by omega)]; exact h2)]
    unfold mksTo
    rw [List.range_succ, List.flatMap_append]
    simp only [List.flatMap_cons, List.flatMap_nil, List.append_nil]
    rw [getD_lt edges n _ (by omega)]
structure MksOk (m : XMan) (mks : List (ByteArray × Nat)) : Prop where
  nd : (mks.map (·.1)).Nodup
  look : ∀ f n, lookL mks f = some n ↔ f ∈ outsOf m n
  lt : ∀ p ∈ mks, p.2 < m.edges.length
theorem mks_ok {m : XMan} (hs : ∀ e ∈ m.edges, e.small) {mks : List (ByteArray × Nat)} (h : allTo m.edges m.edges.length = some mks) : MksOk m mks := by
  obtain ⟨h1, _⟩ := allTo_ok hs m.edges.length (Nat.le_refl _) mks h
  have hmk := allTo_all (Nat.le_refl _) h
  refine ⟨h1.nd, fun f n => ?_, h1.lt⟩
  rw [lookL_iff h1.nd, hmk]
  exact mksTo_mem m f n
theorem outsOf_at (m : XMan) {i : Nat} (h : i < m.edges.length) : outsOf m i = m.edges[i].outs := by
  unfold outsOf
  rw [List.getElem?_eq_getElem h]; rfl
theorem outsOf_lt {m : XMan} {f : ByteArray} {n : Nat} (h : f ∈ outsOf m n) : n < m.edges.length := by
  by_cases hn : n < m.edges.length
  · exact hn
  · unfold outsOf at h
    rw [List.getElem?_eq_none (by omega)] at h
    cases h
theorem makerI_lt0 (m : XMan) (f : ByteArray) : makerI m f < 0 ∨ ∃ n : Nat, makerI m f = (n : Int) := by
  unfold makerI
  rcases idxI_cases (fun e : XEdge => inB e.outs f) m.edges with ⟨h, _⟩ | ⟨i, _, h, _⟩
  · exact .inl (by rw [h]; decide)
  · exact .inr ⟨i, h⟩
theorem maker_iff {m : XMan} {mks : List (ByteArray × Nat)} (h : MksOk m mks) (f : ByteArray) (n : Nat) : makerI m f = (n : Int) ↔ lookL mks f = some n := by
  unfold makerI
  rcases idxI_cases (fun e : XEdge => inB e.outs f) m.edges with ⟨h1, h2⟩ | ⟨i, hi, h1, _, h2⟩
  · rw [h1]
    constructor
    · intro h; omega
    · intro hl
      have hm := (h.look f n).1 hl
      have hn := outsOf_lt hm
      rw [outsOf_at m hn] at hm
      have := h2 _ (List.getElem_mem hn)
      rw [(inB_mem _ _).2 hm] at this
      cases this
  · have hl : lookL mks f = some i := (h.look f i).2 (by rw [outsOf_at m hi]; exact (inB_mem _ _).1 h2)
    rw [h1, hl, Option.some.injEq]
    omega
theorem maker_neg {m : XMan} {mks : List (ByteArray × Nat)} (h : MksOk m mks) (f : ByteArray) : makerI m f < 0 ↔ (lookL mks f).isSome = false := by
  cases hl : lookL mks f with
  | none =>
    simp only [Option.isSome_none, iff_true]
    have := makerI_lt0 m f
    rcases this with h0 | ⟨n, hn⟩
    · exact h0
    · have := (maker_iff h f n).1 hn
      rw [hl] at this; cases this
  | some n =>
    have := (maker_iff h f n).2 hl
    simp only [Option.isSome_some, Bool.true_eq_false, iff_false]
    omega
def ahN (m : XMan) (mks : List (ByteArray × Nat)) : List (List Nat) := m.edges.map fun e => madeL mks e.needs
section
variable {m : XMan} {mks : List (ByteArray × Nat)}
theorem ahN_len : (ahN m mks).length = m.edges.length := by unfold ahN; simp
theorem ahN_get (a : Nat) : (ahN m mks).getD a [] = madeL mks (edgeN m a).needs := by
  unfold ahN edgeN
  rw [List.getD_eq_getElem?_getD, List.getD_eq_getElem?_getD, List.getElem?_map]
  cases m.edges[a]? <;> rfl
theorem ahN_lt (h : MksOk m mks) (a : Nat) : ∀ c ∈ (ahN m mks).getD a [], c < m.edges.length := fun c hc => by
  rw [ahN_get] at hc
  exact madeL_lt h.lt _ c hc
theorem ahN_ab (h : MksOk m mks) : ∀ l ∈ ahN m mks, ∀ c ∈ l, c < (ahN m mks).length := fun l hl c hc => by
  obtain ⟨i, hi, rfl⟩ := List.getElem_of_mem hl
  rw [ahN_len]
  exact ahN_lt h i c (by rw [getD_lt _ _ _ hi]; exact hc)
theorem need1_iff (h : MksOk m mks) (a c : Nat) : need1 m a c = true ↔ c ∈ (ahN m mks).getD a [] := by
  rw [ahN_get, madeL_mem]
  unfold need1
  rw [List.any_eq_true]
  constructor
  · rintro ⟨f, hf, hc⟩
    exact ⟨f, hf, (maker_iff h f c).1 (by simpa using hc)⟩
  · rintro ⟨f, hf, hc⟩
    exact ⟨f, hf, by simpa using (maker_iff h f c).2 hc⟩
theorem rch_trans {ah : List (List Nat)} {a b c : Nat} (h1 : Rch ah (ah.getD a []) b) (h2 : Rch ah (ah.getD b []) c) : Rch ah (ah.getD a []) c := by
  induction h2 with
  | base h => exact .step h1 h
  | step _ h ih => exact .step ih h
theorem bel_iff (h : MksOk m mks) {a c : Nat} (ha : a < m.edges.length) (hc : c < m.edges.length) : belB m a c = true ↔ Rch (ahN m mks) ((ahN m mks).getD a []) c := by
  unfold belB
  constructor
  · exact wK_sound _ _ (T := fun a c => Rch (ahN m mks) ((ahN m mks).getD a []) c) (fun a c h1 => .base ((need1_iff h a c).1 h1)) (fun a b c h1 h2 => rch_trans h1 h2) _ (Nat.le_refl _) ha hc
  · intro hr
    have : c < m.edges.length ∧ wK m.edges.length (need1 m) m.edges.length a c = true := by
      clear hc
      induction hr with
      | base hb =>
        have := ahN_lt h a _ hb
        exact ⟨this, wK_le _ _ _ (Nat.le_refl _) ha this ((need1_iff h _ _).2 hb)⟩
      | step _ hb ih =>
        have := ahN_lt h _ _ hb
        exact ⟨this, wK_trans _ _ _ (Nat.le_refl _) ih.1 ha this ih.2 (wK_le _ _ _ (Nat.le_refl _) ih.1 this ((need1_iff h _ _).2 hb))⟩
    exact this.2
end
theorem orderF_full {ah : List (List Nat)} {N : Nat} (hN : ah.length = N) (hab : ∀ l ∈ ah, ∀ n ∈ l, n < ah.length) (hac : ∀ c, ¬ Rch ah (ah.getD c []) c) : ∀ (f : Nat) (out : List Nat), out.Nodup → (∀ n ∈ out, n < N) → N ≤ out.length + f → N ≤ (orderF ah (List.range N) f out).length
  | 0, out, _, _, h3 => h3
  | f + 1, out, h1, h2, h3 => by
    have hg : ∀ n, ∀ k ∈ ah.getD n [], k < ah.length := fun n k hk => by
      by_cases hn : n < ah.length
      · rw [getD_lt _ _ _ hn] at hk
        exact hab _ (List.getElem_mem hn) _ hk
      · rw [List.getD_eq_getElem?_getD, List.getElem?_eq_none (by omega)] at hk
        cases hk
    unfold orderF
    split
    · rename_i n hn
      have hr := List.find?_some hn
      have hmem := List.mem_of_find?_eq_some hn
      unfold ready at hr
      rw [Bool.and_eq_true, Bool.not_eq_true'] at hr
      refine orderF_full hN hab hac f (out ++ [n]) ?_ (fun k hk => ?_) (by simp only [List.length_append, List.length_cons, List.length_nil]; omega)
      · rw [List.nodup_append]
        exact ⟨h1, by simp, fun a ha b hb => by simp only [List.mem_singleton] at hb; rw [hb]; exact fun e => by have := hr.1; rw [← e, List.contains_iff_mem.2 ha] at this; cases this⟩
      · rcases List.mem_append.1 hk with hk | hk
        · exact h2 k hk
        · rw [List.mem_singleton.1 hk]; exact List.mem_range.1 hmem
    · rename_i hno
      rw [List.find?_eq_none] at hno
      have hall : ∀ n, n < N → n ∈ out := by
        have key : ∀ μ n, (reachedS ah (ah.getD n [])).length < μ → n < N → n ∈ out := by
          intro μ
          induction μ with
          | zero => intro n h; omega
          | succ μ ih =>
            intro n hμ hn
            by_cases ho : n ∈ out
            · exact ho
            · have hr := hno n (List.mem_range.2 hn)
              unfold ready at hr
              rw [Bool.and_eq_true, not_and, Bool.not_eq_true', List.all_eq_true] at hr
              have hr := hr (by simpa using ho)
              refine absurd (fun k hk => ?_) hr
              have hkN := hg n k hk
              have hin : k ∈ reachedS ah (ah.getD n []) := (reachedS_mem hab (hg n) k).2 (.base hk)
              have hlt : (reachedS ah (ah.getD k [])).length < (reachedS ah (ah.getD n [])).length := by
                have := nodup_sub_len (l := k :: reachedS ah (ah.getD k [])) (m := reachedS ah (ah.getD n [])) (List.nodup_cons.2 ⟨fun hc => hac k ((reachedS_mem hab (hg k) k).1 hc), reachedS_nodup hab (hg k)⟩) (fun x hx => by
                  rcases List.mem_cons.1 hx with rfl | hx
                  · exact hin
                  · exact (reachedS_mem hab (hg n) x).2 (rch_trans (.base hk) ((reachedS_mem hab (hg k) x).1 hx)))
                rw [List.length_cons] at this
                omega
              simpa using ih k (by omega) (by omega)
        exact fun n hn => key _ n (Nat.lt_succ_self _) hn
      have := nodup_sub_len (l := List.range N) (m := out) List.nodup_range (fun n hn => hall n (List.mem_range.1 hn))
      simpa using this
theorem full_acyc {ah : List (List Nat)} {N : Nat} (hN : ah.length = N) (hab : ∀ l ∈ ah, ∀ n ∈ l, n < ah.length) (h : N ≤ (orderL ah (List.range N)).length) (c : Nat) (hc : c < N) : ¬ Rch ah (ah.getD c []) c := fun hr => by
  obtain ⟨t1, t2⟩ := orderF_topo ah (List.range N) (List.range N).length [] List.nodup_nil (fun p n r he => by simp at he)
  have hin : c ∈ orderF ah (List.range N) (List.range N).length [] := full_of_len t1 (orderF_ok _ _ _ [] (fun n hn => by cases hn)).1 (by exact Nat.le_trans (Nat.le_of_eq List.length_range) h) c (List.mem_range.2 hc)
  obtain ⟨p, r, he⟩ := List.append_of_mem hin
  rw [he] at t1 t2
  have := t2.ahead hr
  exact absurd rfl ((List.nodup_append.1 t1).2.2 c this c (List.mem_cons_self ..))
def wrongN (m : XMan) : Nat := if (m.edges.flatMap XEdge.outs).Nodup then (if ((List.range m.edges.length).any fun i => belB m i i) = true then 12 else 0) else 11
theorem newG_wrong {m : XMan} (hs : ∀ e ∈ m.edges, e.small) : (∀ c, newG m = .inl c → wrongN m = c) ∧ (∀ g, newG m = .inr g → wrongN m = 0) := by
  unfold newG wrongN
  cases hm : allTo m.edges m.edges.length with
  | none =>
    have hnd : ¬ (m.edges.flatMap XEdge.outs).Nodup := fun hn => by
      have := allTo_some (edges := m.edges) (Nat.le_refl _) (by rw [List.take_length]; exact hn)
      rw [hm] at this
      cases this
    rw [if_neg hnd]
    exact ⟨fun c h => by cases h; rfl, fun g h => by cases h⟩
  | some mks =>
    have hok := mks_ok hs hm
    have hnd : (m.edges.flatMap XEdge.outs).Nodup := by
      have h1 := mksTo_names m.edges m.edges.length (Nat.le_refl _)
      rw [List.take_length] at h1
      rw [← h1, ← allTo_all (Nat.le_refl _) hm]
      exact hok.nd
    rw [if_pos hnd]
    have hahl : (ahN m mks).length = m.edges.length := ahN_len
    have hab := ahN_ab hok
    simp only
    by_cases hlen : (orderL (ahN m mks) (List.range m.edges.length)).length < m.edges.length
    · have hcy : ((List.range m.edges.length).any fun i => belB m i i) = true := by
        cases hany : ((List.range m.edges.length).any fun i => belB m i i) with
        | true => rfl
        | false =>
          rw [List.any_eq_false] at hany
          have := orderF_full hahl hab (fun c hr => by
            have hcl : c < m.edges.length := by
              have : ∀ x, Rch (ahN m mks) ((ahN m mks).getD c []) x → x < m.edges.length := fun x hx => by
                induction hx with
                | base hb => exact ahN_lt hok _ _ hb
                | step _ hb _ => exact ahN_lt hok _ _ hb
              exact this c hr
            exact hany c (List.mem_range.2 hcl) ((bel_iff hok hcl hcl).2 hr)) (List.range m.edges.length).length [] List.nodup_nil (fun n hn => by cases hn) (by simp)
          unfold orderL at hlen
          omega
      rw [hcy, if_pos rfl]
      constructor
      · intro c h
        rw [show (m.edges.map fun e => madeL mks e.needs) = ahN m mks from rfl, if_pos hlen] at h
        cases h; rfl
      · intro g h
        rw [show (m.edges.map fun e => madeL mks e.needs) = ahN m mks from rfl, if_pos hlen] at h
        cases h
    · have hcy : ((List.range m.edges.length).any fun i => belB m i i) = false := by
        rw [List.any_eq_false]
        intro i hi
        have hil := List.mem_range.1 hi
        have := full_acyc hahl hab (Nat.not_lt.1 hlen) i hil
        rw [← bel_iff hok hil hil] at this
        exact this
      rw [hcy]
      constructor
      · intro c h
        rw [show (m.edges.map fun e => madeL mks e.needs) = ahN m mks from rfl, if_neg hlen] at h
        cases h
      · intro g h; rfl
theorem putL_iff (s : ByteArray) : ∀ (l : List ByteArray) (x : ByteArray), x ∈ putL s l ↔ x = s ∨ x ∈ l
  | [], x => by unfold putL; simp
  | y :: l, x => by
    unfold putL
    split
    · rw [List.mem_cons, List.mem_cons, putL_iff s l x]
      constructor
      · rintro (h | h | h)
        · exact .inr (.inl h)
        · exact .inl h
        · exact .inr (.inr h)
      · rintro (h | h | h)
        · exact .inr (.inl h)
        · exact .inl h
        · exact .inr (.inr h)
    · split
      · rename_i he
        rw [List.mem_cons]
        constructor
        · exact .inr
        · rintro (h | h)
          · exact .inl (by rw [h, he])
          · exact h
      · rw [List.mem_cons]
theorem putAll_iff : ∀ (fs out : List ByteArray) (x : ByteArray), x ∈ putAll out fs ↔ x ∈ out ∨ x ∈ fs
  | [], out, x => by simp [putAll]
  | f :: fs, out, x => by
    have := putAll_iff fs (putL f out) x
    rw [show putAll out (f :: fs) = putAll (putL f out) fs from rfl, this, putL_iff, List.mem_cons]
    constructor
    · rintro ((h | h) | h)
      · exact .inr (.inl h)
      · exact .inl h
      · exact .inr (.inr h)
    · rintro (h | h | h)
      · exact .inl (.inr h)
      · exact .inl (.inl h)
      · exact .inr h
def aboveTo2 (m : XMan) (n i : Nat) : List ByteArray := (List.range i).flatMap fun k => if belB m n k = true then outsOf m k else []
def aboveR (m : XMan) (n : Nat) : List ByteArray := putAll [] (aboveTo2 m n m.edges.length)
def thereN (m : XMan) (n : Int) (f : ByteArray) : Bool := if makerI m f < 0 then !ownR f else decide (0 ≤ n ∧ n < m.edges.length) && inB (aboveR m n.toNat) f
theorem aboveR_mem (m : XMan) (n : Nat) (f : ByteArray) : f ∈ aboveR m n ↔ ∃ k, k < m.edges.length ∧ belB m n k = true ∧ f ∈ outsOf m k := by
  unfold aboveR aboveTo2
  rw [putAll_iff, List.mem_flatMap]
  constructor
  · rintro (h | ⟨k, hk, h⟩)
    · cases h
    · split at h
      · rename_i hb; exact ⟨k, List.mem_range.1 hk, hb, h⟩
      · cases h
  · rintro ⟨k, hk, hb, h⟩
    exact .inr ⟨k, List.mem_range.2 hk, by rw [if_pos hb]; exact h⟩
theorem fine_mks {g : XGr} (hg : g.Fine) : MksOk g.man g.mks ∧ g.ah = ahN g.man g.mks :=
  ⟨⟨hg.nd, hg.mkr, fun p hp => by rw [← hg.al]; exact hg.kb p hp⟩, hg.ah⟩
theorem above_same {g : XGr} (hg : g.Fine) {n : Nat} (hn : n < g.man.edges.length) (f : ByteArray) : (aboveL g n).contains f = inB (aboveR g.man n) f := by
  obtain ⟨hok, hah⟩ := fine_mks hg
  rw [Bool.eq_iff_iff, List.contains_iff_mem, above_mem hg, inB_mem, aboveR_mem]
  constructor
  · rintro ⟨k, hk, hf⟩
    have hkl := outsOf_lt hf
    rw [hah] at hk
    exact ⟨k, hkl, (bel_iff hok hn hkl).2 hk, hf⟩
  · rintro ⟨k, hkl, hb, hf⟩
    refine ⟨k, ?_, hf⟩
    rw [hah]
    exact (bel_iff hok hn hkl).1 hb
theorem there_same {g : XGr} (hg : g.Fine) {n : Nat} (hn : n < g.man.edges.length) (f : ByteArray) : (if (lookL g.mks f).isSome = true then (aboveL g n).contains f else !ownB f) = thereN g.man n f := by
  obtain ⟨hok, _⟩ := fine_mks hg
  unfold thereN
  by_cases h : makerI g.man f < 0
  · rw [if_pos h, if_neg (by rw [(maker_neg hok f).1 h]; decide), own_same]
  · have hl : (lookL g.mks f).isSome = true := by
      cases hh : (lookL g.mks f).isSome with
      | true => rfl
      | false => exact absurd ((maker_neg hok f).2 hh) h
    rw [if_neg h, if_pos hl, above_same hg hn]
    have : decide (0 ≤ (n : Int) ∧ (n : Int) < g.man.edges.length) = true := decide_eq_true ⟨by omega, by omega⟩
    rw [this, Bool.true_and, Int.toNat_natCast]
theorem there_out {g : XGr} (hg : g.Fine) {n : Int} (hn : ¬ (0 ≤ n ∧ n < g.man.edges.length)) (f : ByteArray) : (if (lookL g.mks f).isSome = true then false else !ownB f) = thereN g.man n f := by
  obtain ⟨hok, _⟩ := fine_mks hg
  unfold thereN
  by_cases h : makerI g.man f < 0
  · rw [if_pos h, if_neg (by rw [(maker_neg hok f).1 h]; decide), own_same]
  · have hl : (lookL g.mks f).isSome = true := by
      cases hh : (lookL g.mks f).isSome with
      | true => rfl
      | false => exact absurd ((maker_neg hok f).2 hh) h
    rw [if_neg h, if_pos hl, decide_eq_false hn]
    rfl
theorem wrong_same {g : XGr} (hg : g.Fine) : wrongB g = wrongR g.man := by
  unfold wrongB wrongR
  rw [Bool.eq_iff_iff, Bool.or_eq_true, List.any_eq_true, List.any_eq_true, List.any_eq_true]
  constructor
  · rintro (⟨f, hf, ho⟩ | ⟨f, hf, ho⟩)
    · obtain ⟨n, hn⟩ := Option.isSome_iff_exists.1 ((outsL_mem hg f).1 hf)
      have hm := (hg.mkr f n).1 hn
      have hlt := outsOf_lt hm
      rw [outsOf_at _ hlt] at hm
      exact ⟨_, List.getElem_mem hlt, List.any_eq_true.2 ⟨f, List.mem_append.2 (.inr hm), by rw [← own_same]; exact ho⟩⟩
    · obtain ⟨⟨e, he, hfe⟩, _⟩ := (sourcesL_mem g f).1 hf
      exact ⟨e, he, List.any_eq_true.2 ⟨f, List.mem_append.2 (.inl hfe), by rw [← own_same]; exact ho⟩⟩
  · rintro ⟨e, he, h⟩
    obtain ⟨f, hf, ho⟩ := List.any_eq_true.1 h
    rw [← own_same] at ho
    by_cases hl : (lookL g.mks f).isSome = true
    · exact .inl ⟨f, (outsL_mem hg f).2 hl, ho⟩
    · rcases List.mem_append.1 hf with hf | hf
      · exact .inr ⟨f, (sourcesL_mem g f).2 ⟨⟨e, he, hf⟩, by simpa using hl⟩, ho⟩
      · obtain ⟨i, hi, rfl⟩ := List.getElem_of_mem he
        have := (hg.mkr f i).2 (by rw [outsOf_at _ hi]; exact hf)
        rw [this] at hl
        exact absurd rfl hl
end Go.Ab.S16
namespace Go.Ab.S16
open Go Go.Proofs Go.RowKit
def tD (t : Bool) : D := .v (.bool t)
def rowB (n : Nat) (g : Nat → Bool) : List D := (List.range n).map fun j => tD (g j)
def cellsR (n : Nat) (cs : Nat → Nat) (f : Nat → Nat → Bool) : Nat → Store
  | 0 => []
  | i + 1 => (cs i, .arr 1 (rowB n (f i))) :: cellsR n cs f i
def topR (n : Nat) (cs : Nat → Nat) (i : Nat) : List D := (List.range n).map fun j => if j < i then .own (some (cs j)) 1 n else .v (.slice none 0 0)
theorem rowB_len (n : Nat) (g : Nat → Bool) : (rowB n g).length = n := by unfold rowB; simp
theorem topR_len (n : Nat) (cs : Nat → Nat) (i : Nat) : (topR n cs i).length = n := by unfold topR; simp
theorem range_getD {α : Type} (F : Nat → α) (z : α) {n k : Nat} (h : k < n) : ((List.range n).map F).getD k z = F k := by simp [h]
theorem range_set {α : Type} (F : Nat → α) (n k : Nat) (x : α) : ((List.range n).map F).set k x = (List.range n).map fun j => if j = k then x else F j := by
  refine List.ext_getElem (by simp) fun i h1 h2 => ?_
  simp at h1
  rw [List.getElem_set]
  simp only [List.getElem_map, List.getElem_range]
  by_cases h : k = i
  · rw [if_pos h, if_pos h.symm]
  · rw [if_neg h, if_neg (fun e => h e.symm)]
theorem rowB_get {n k : Nat} (g : Nat → Bool) (h : k < n) : (rowB n g).getD k .any = .v (.bool (g k)) := range_getD _ _ h
theorem rowB_set (n k : Nat) (g : Nat → Bool) : (rowB n g).set k (.v (.bool true)) = rowB n fun c => if c = k then true else g c := by
  unfold rowB
  rw [range_set]
  refine List.map_congr_left fun j _ => ?_
  by_cases h : j = k
  · rw [if_pos h]; simp only [if_pos h]; rfl
  · rw [if_neg h]; simp only [if_neg h]
theorem topR_get {n k i : Nat} (cs : Nat → Nat) (h : k < n) (hi : k < i) : (topR n cs i).getD k .any = .own (some (cs k)) 1 n := by
  unfold topR
  rw [range_getD _ _ h, if_pos hi]
theorem topR_set (n i : Nat) (cs : Nat → Nat) : (topR n cs i).set i (.own (some (cs i)) 1 n) = topR n cs (i + 1) := by
  unfold topR
  rw [range_set]
  refine List.map_congr_left fun j _ => ?_
  by_cases h : j = i
  · rw [if_pos h, if_pos (by omega), h]
  · rw [if_neg h]
    by_cases h2 : j < i
    · rw [if_pos h2, if_pos (by omega)]
    · rw [if_neg h2, if_neg (by omega)]
theorem topR_zero (n : Nat) (cs : Nat → Nat) : List.replicate n (.v (.slice none 0 0)) = topR n cs 0 := by
  unfold topR
  refine List.ext_getElem (by simp) fun i h1 h2 => ?_
  simp
theorem rowB_zero (n : Nat) : List.replicate n (.v (.bool false)) = rowB n fun _ => false := by
  unfold rowB
  refine List.ext_getElem (by simp) fun i h1 h2 => ?_
  simp [tD]
theorem topR_congr {n i : Nat} {cs cs' : Nat → Nat} (h : ∀ j, j < i → cs j = cs' j) : topR n cs i = topR n cs' i := by
  unfold topR
  refine List.map_congr_left fun j _ => ?_
  split
  · rename_i hj; rw [h j hj]
  · rfl
theorem cellsR_congr {n : Nat} {cs cs' : Nat → Nat} {f f' : Nat → Nat → Bool} : ∀ {i : Nat}, (∀ j, j < i → cs j = cs' j) → (∀ j, j < i → f j = f' j) → cellsR n cs f i = cellsR n cs' f' i
  | 0, _, _ => rfl
  | i + 1, h, hf => by
    unfold cellsR
    rw [h i (by omega), hf i (by omega), cellsR_congr (fun j hj => h j (by omega)) fun j hj => hf j (by omega)]
structure CsOk (cs : Nat → Nat) (i : Nat) (ρ : Store) : Prop where
  inj : ∀ j k, j < i → k < i → cs j = cs k → j = k
  fr : ∀ j, j < i → sget (cs j) ρ = none
section
variable {n : Nat} {cs : Nat → Nat} {f : Nat → Nat → Bool} {ρ : Store}
theorem cellsR_get : ∀ {i : Nat}, CsOk cs i ρ → ∀ {j : Nat}, j < i → sget (cs j) (cellsR n cs f i ++ ρ) = some (.arr 1 (rowB n (f j)))
  | 0, _, j, h => by omega
  | i + 1, ho, j, h => by
    unfold cellsR
    rw [List.cons_append, sget_cons]
    by_cases hj : j = i
    · subst hj; rw [if_pos rfl]
    · rw [if_neg (fun e => hj (ho.inj j i (by omega) (by omega) e))]
      exact cellsR_get ⟨fun a b ha hb => ho.inj a b (by omega) (by omega), fun a ha => ho.fr a (by omega)⟩ (by omega)
theorem cellsR_out : ∀ {i : Nat} {b : Nat}, (∀ j, j < i → cs j ≠ b) → sget b (cellsR n cs f i ++ ρ) = sget b ρ
  | 0, _, _ => rfl
  | i + 1, b, h => by
    unfold cellsR
    rw [List.cons_append, sget_cons, if_neg (fun e => h i (by omega) e.symm)]
    exact cellsR_out fun j hj => h j (by omega)
theorem cellsR_dom {i : Nat} (ho : CsOk cs i ρ) {b : Nat} {o : AObj} (h : sget b ρ = some o) : sget b (cellsR n cs f i ++ ρ) = some o := by
  rw [cellsR_out fun j hj e => by rw [← e, ho.fr j hj] at h; cases h]
  exact h
theorem cellsR_set {g : Nat → Bool} : ∀ {i : Nat}, CsOk cs i ρ → ∀ {j : Nat}, j < i → sset (cs j) (.arr 1 (rowB n g)) (cellsR n cs f i ++ ρ) = cellsR n cs (fun a => if a = j then g else f a) i ++ ρ
  | 0, _, j, h => by omega
  | i + 1, ho, j, h => by
    unfold cellsR
    rw [List.cons_append, List.cons_append]
    by_cases hj : j = i
    · subst hj
      rw [sset_self, if_pos rfl]
      congr 2
      exact cellsR_congr (fun _ _ => rfl) fun a ha => by rw [if_neg (by omega)]
    · rw [sset, if_neg (fun e => hj (ho.inj j i (by omega) (by omega) e)), if_neg (fun e => hj e.symm)]
      rw [cellsR_set ⟨fun a b ha hb => ho.inj a b (by omega) (by omega), fun a ha => ho.fr a (by omega)⟩ (by omega)]
theorem cellsR_setOut {x : AObj} : ∀ {i : Nat} {b : Nat}, (∀ j, j < i → cs j ≠ b) → sset b x (cellsR n cs f i ++ ρ) = cellsR n cs f i ++ sset b x ρ
  | 0, _, _ => rfl
  | i + 1, b, h => by
    unfold cellsR
    rw [List.cons_append, List.cons_append, sset, if_neg (fun e => h i (by omega) e.symm), cellsR_setOut fun j hj => h j (by omega)]
end
def endR (n : Nat) (cs : Nat → Nat) (f : Nat → Nat → Bool) (i : Nat) : List D := (List.range n).map fun j => if j < i then .own (some (cs j)) 1 n else .slc (rowB n (f j))
theorem endR_top (n : Nat) (cs : Nat → Nat) (f : Nat → Nat → Bool) : endR n cs f n = topR n cs n := by
  unfold endR topR
  refine List.map_congr_left fun j hj => ?_
  rw [if_pos (List.mem_range.1 hj), if_pos (List.mem_range.1 hj)]
theorem pub_rowB (b s n : Nat) (xs : List D) (g : Nat → Bool) : (rowB n g).map (D.pub b s xs) = rowB n g := by
  unfold rowB
  rw [List.map_map]
  rfl
theorem spub_cells {n b s : Nat} {xs : List D} {cs : Nat → Nat} {f : Nat → Nat → Bool} {ρ : Store} : ∀ {i : Nat}, (∀ j, j < i → cs j ≠ b) → spub b s xs (cellsR n cs f i ++ ρ) = cellsR n cs f i ++ spub b s xs ρ
  | 0, _ => rfl
  | i + 1, h => by
    unfold cellsR
    rw [List.cons_append, List.cons_append, spub, if_neg (fun e => h i (by omega) e.symm), spub_cells fun j hj => h j (by omega)]
    simp only [AObj.pub, pub_rowB]
theorem Gs.pubRows {P : Program} {N : Slots} {C : Ctx P N} {todo : List Item} {env : Env} {n bo : Nat} {cs : Nat → Nat} {f : Nat → Nat → Bool} : ∀ {i : Nat}, i ≤ n → (∀ j k, j < i → k < i → cs j = cs k → j = k) → (∀ j, j < i → cs j ≠ bo) → (∀ j s xs, j < i → epub (cs j) s xs env = env) →
    Gs C todo env [(bo, .arr 1 (endR n cs f 0))] → Gs C todo env (cellsR n cs f i ++ [(bo, .arr 1 (endR n cs f i))])
  | 0, _, _, _, _, h => h
  | i + 1, hi, hj, hb, he, h => by
    unfold cellsR
    refine Gs.publish (cs i) (sget_self ..) ?_
    rw [he i _ _ (by omega)]
    have e1 : spub (cs i) 1 (rowB n (f i)) ((cs i, AObj.arr 1 (rowB n (f i))) :: (cellsR n cs f i ++ [(bo, .arr 1 (endR n cs f (i + 1)))])) = cellsR n cs f i ++ [(bo, .arr 1 (endR n cs f i))] := by
      rw [spub, if_pos rfl, spub_cells fun j h2 e => by have := hj j i (by omega) (by omega) e; omega]
      congr 1
      rw [spub, if_neg (hb i (by omega)), spub]
      simp only [AObj.pub]
      congr 3
      unfold endR
      rw [List.map_map]
      refine List.map_congr_left fun j _ => ?_
      simp only [Function.comp]
      by_cases h1 : j < i
      · rw [if_pos (by omega), if_pos h1]
        simp only [D.pub]
        rw [if_neg (fun e => by have := hj j i (by omega) (by omega) e.1; omega)]
      · by_cases h2 : j = i
        · subst h2
          rw [if_pos (by omega), if_neg (by omega)]
          simp only [D.pub]
          rw [if_pos ⟨trivial, trivial, by rw [rowB_len]; exact Nat.le_refl _⟩, List.take_of_length_le (by rw [rowB_len]; exact Nat.le_refl _)]
        · rw [if_neg (by omega), if_neg h1]
          rfl
    show Gs C todo env (spub (cs i) 1 (rowB n (f i)) ((cs i, AObj.arr 1 (rowB n (f i))) :: (cellsR n cs f i ++ [(bo, .arr 1 (endR n cs f (i + 1)))])))
    rw [e1]
    exact Gs.pubRows (by omega) (fun j k h1 h2 => hj j k (by omega) (by omega)) (fun j h1 => hb j (by omega)) (fun j s xs h1 => he j s xs (by omega)) h
theorem pub_own_no {b c s a n : Nat} {xs : List D} (h : c ≠ b) : D.pub b s xs (.own (some c) a n) = .own (some c) a n := by
  simp only [D.pub]
  rw [if_neg (fun e => h e.1)]
def n2 (m : XMan) (i l : Nat) : Nat → Nat → Bool := fun a c => if a < i then need1 m a c else if a = i then ((edgeN m i).needs.take l).any fun f => decide (makerI m f = (c : Int)) else false
theorem n2_row (m : XMan) (i : Nat) (h : i < m.edges.length) : n2 m i (edgeN m i).needs.length = n2 m (i + 1) 0 := by
  funext a c
  unfold n2
  rw [List.take_length, List.take_zero]
  by_cases h1 : a < i
  · rw [if_pos h1, if_pos (by omega)]
  · rw [if_neg h1]
    by_cases h2 : a = i
    · subst h2
      rw [if_pos rfl, if_pos (by omega)]
      rfl
    · rw [if_neg h2, if_neg (by omega)]
      split <;> rfl
theorem n2_end (m : XMan) : n2 m m.edges.length 0 = need1 m := by
  funext a c
  unfold n2
  rw [List.take_zero]
  by_cases h1 : a < m.edges.length
  · rw [if_pos h1]
  · rw [if_neg h1]
    have : need1 m a c = false := by
      unfold need1 edgeN
      rw [List.getD_eq_getElem?_getD, List.getElem?_eq_none (by omega)]
      rfl
    rw [this]
    split <;> rfl
theorem n2_at (m : XMan) (i l c : Nat) : n2 m i l i c = ((edgeN m i).needs.take l).any fun f => decide (makerI m f = (c : Int)) := by
  unfold n2
  rw [if_neg (Nat.lt_irrefl _), if_pos rfl]
theorem n2_put (m : XMan) (i l : Nat) (hl : l < (edgeN m i).needs.length) {x : Nat} (hx : makerI m (edgeN m i).needs[l] = (x : Int)) : (fun a => if a = i then (fun c => if c = x then true else n2 m i l i c) else n2 m i l a) = n2 m i (l + 1) := by
  funext a c
  by_cases ha : a = i
  · subst ha
    rw [if_pos rfl, n2_at, n2_at, List.take_succ_eq_append_getElem hl, List.any_append]
    simp only [List.any_cons, List.any_nil, Bool.or_false, hx]
    by_cases hc : c = x
    · rw [if_pos hc, hc, decide_eq_true rfl, Bool.or_true]
    · rw [if_neg hc]
      have : decide ((x : Int) = (c : Int)) = false := decide_eq_false (by omega)
      rw [this, Bool.or_false]
  · rw [if_neg ha]
    unfold n2
    by_cases h1 : a < i
    · rw [if_pos h1, if_pos h1]
    · rw [if_neg h1, if_neg h1, if_neg ha, if_neg ha]
theorem n2_skip (m : XMan) (i l : Nat) (hl : l < (edgeN m i).needs.length) (hx : makerI m (edgeN m i).needs[l] < 0) : n2 m i l = n2 m i (l + 1) := by
  funext a c
  unfold n2
  rw [List.take_succ_eq_append_getElem hl, List.any_append]
  simp only [List.any_cons, List.any_nil, Bool.or_false]
  have : decide (makerI m (edgeN m i).needs[l] = (c : Int)) = false := decide_eq_false (by omega)
  rw [this, Bool.or_false]
theorem makerI_lt (m : XMan) (f : ByteArray) : makerI m f < (m.edges.length : Int) := by
  unfold makerI
  rcases idxI_cases (fun e : XEdge => inB e.outs f) m.edges with ⟨h, _⟩ | ⟨i, hi, h, _⟩
  · rw [h]; omega
  · rw [h]; omega
def belD (m : XMan) : D := .slc ((List.range m.edges.length).map fun i => .slc (rowB m.edges.length (belB m i)))
theorem below_calls (m : XMan) (σ : Store) (hl : m.edges.length < 2 ^ 20) (hs : ∀ e ∈ m.edges, e.small) :
    AC Tryz.prog 58 [m.d] σ (fun e σ' => e = .ret (belD m) ∧ σ' = σ) := by
  refine AC.still ?_ σ
  refine AC.forget (R := fun e _ => e = .ret (belD m)) ?_ fun e σ' h => ⟨[], SLe.nil _, h, rfl⟩
  unfold XMan.d
  have hll : (m.edges.map XEdge.d).length = m.edges.length := List.length_map ..
  obtain ⟨n, hn⟩ : ∃ n, n = m.edges.length := ⟨_, rfl⟩
  rw [← hn] at hll
  refine AC.of_body Tryz.func58 rfl Tryz.ntmps58 (by simp) fun C hC => ?_
  refine Gs.sq (Gs.rg [0] fun K hK => ?_); simp (maxSteps:=9^7) only [go_sem]
  intro b1
  refine hK _ _ ?_; clear hK K
  refine Gs.sq (Gs.rg [1] fun K hK => ?_); simp (maxSteps:=9^7) only [go_sem, hll]
  refine hK _ _ ?_; clear hK K
  refine Gs.sq ?_
  have hn0 : (0 : Int) ≤ (n : Int) := by omega
  refine Gs.rg [1, 3] fun K hK => ?_; simp (maxSteps:=9^7) only [go_sem, hn0]
  refine ⟨by omega, fun bo hbo => ?_⟩
  have h1o : b1 ≠ bo := fun e => by subst e; rw [sget_self] at hbo; cases hbo
  refine hK _ _ ?_; clear hK K
  obtain ⟨ρ, hρ⟩ : ∃ ρ : Nat → (Nat → Nat) → Store, ρ = fun i cs => [(bo, .arr 1 (topR n cs i)), (b1, AObj.arr 2 [D.agg [.slc (m.edges.map XEdge.d), .slc (m.defs.map sD)]])] := ⟨_, rfl⟩
  have go : ∀ i cs, sget bo (ρ i cs) = some (.arr 1 (topR n cs i)) := fun i cs => by rw [hρ]; exact sget_self ..
  have g1 : ∀ i cs, sget b1 (ρ i cs) = some (.arr 2 [D.agg [.slc (m.edges.map XEdge.d), .slc (m.defs.map sD)]]) := fun i cs => by rw [hρ]; show sget b1 ((bo, _) :: _) = _; rw [sget_cons, if_neg h1o, sget_self]
  refine Gs.sq (Gs.sq ?_)
  refine Gs.rg [1, 3, 4] fun K hK => ?_; simp (maxSteps:=9^7) only [go_sem]
  refine hK _ _ ?_; clear hK K
  refine Gs.bk ?_
  refine Gs.rebase [1, 3, 4, 5] ?_
  simp only [go_sem]
  refine Gs.while (fun (i : Nat) env' σ'' => ∃ cs : Nat → Nat, (i ≤ n ∧ CsOk cs i (ρ i cs)) ∧ env' = [(1, .ptr b1 2 0 0), (3, .v (.int .i64 (n : Int))), (4, .own (some bo) 1 n), (5, .v (.int .i64 (i : Int)))] ∧ σ'' = cellsR n cs (n2 m i 0) i ++ ρ i cs) (fun (i : Nat) => n - i) 0 ⟨fun _ => 0, ⟨by omega, ⟨fun j k h => by omega, fun j h => by omega⟩⟩, rfl, by rw [hρ, topR_zero n fun _ => 0]; rfl⟩ ?_
  rintro i env' σ'' ⟨cs, ⟨hi, hcs⟩, rfl, rfl⟩ ih
  have ih1 := ih
  refine Gs.sq (Gs.sq ?_)
  refine Gs.rg [1, 3, 4, 5] fun K hK => ?_; simp (maxSteps:=9^7) only [go_sem]
  refine hK _ _ ?_; clear hK K
  refine Gs.cond rfl (fun h19 => ?_) (fun h19 => ?_)
  · have hlt : i < n := Int.ofNat_lt.1 (by simpa using h19)
    have hi0 : (0 : Int) ≤ (i : Int) := by omega
    have hi1 : (i : Int) < (n : Int) := by omega
    have hgo := cellsR_dom (n := n) (f := n2 m i 0) hcs (go i cs)
    have hg1 := cellsR_dom (n := n) (f := n2 m i 0) hcs (g1 i cs)
    refine Gs.sk ?_
    refine Gs.sq ?_
    refine Gs.bk ?_
    refine Gs.sq (Gs.rg [1, 3, 4, 5] fun K hK => ?_); simp (maxSteps:=9^7) only [go_sem, hn0, hi0, hi1]
    refine ⟨⟨by omega, by omega, by omega⟩, fun c hc => ?_⟩
    have hco : bo ≠ c := fun e => by subst e; rw [hgo] at hc; cases hc
    have hc1 : b1 ≠ c := fun e => by subst e; rw [hg1] at hc; cases hc
    have hcc : ∀ j, j < i → cs j ≠ c := fun j hj e => by rw [← e, cellsR_get hcs hj] at hc; cases hc
    have hsg : sget bo ((c, AObj.arr 1 (List.replicate n (D.v (Value.bool false)))) :: (cellsR n cs (n2 m i 0) i ++ ρ i cs)) = some (.arr 1 (topR n cs i)) := by rw [sget_cons, if_neg hco, hgo]
    obtain ⟨cs', hcs'⟩ : ∃ cs' : Nat → Nat, cs' = fun j => if j = i then c else cs j := ⟨_, rfl⟩
    have hci : cs' i = c := by rw [hcs']; exact if_pos rfl
    have hcj : ∀ j, j < i → cs j = cs' j := fun j hj => by rw [hcs']; exact (if_neg (by omega)).symm
    have htop : (topR n cs i).getD i .any = .v (.slice none 0 0) := by
      unfold topR
      rw [range_getD _ _ hlt, if_neg (Nat.lt_irrefl _)]
    have htl := topR_len n cs i
    simp only [go_sem, hsg, htop, htl]
    have hn0' : n2 m i 0 i = fun _ => false := by
      funext c
      rw [n2_at]; rfl
    have hst : sset bo (AObj.arr 1 ((topR n cs i).set i (D.own (some c) 1 n))) ((c, AObj.arr 1 (List.replicate n (D.v (Value.bool false)))) :: (cellsR n cs (n2 m i 0) i ++ ρ i cs)) = cellsR n cs' (n2 m i 0) (i + 1) ++ ρ (i + 1) cs' := by
      rw [sset, if_neg hco, cellsR_setOut (fun j hj e => by have := hcs.fr j hj; rw [e, go] at this; cases this), cellsR_congr hcj fun _ _ => rfl, topR_congr hcj, ← hci, topR_set, rowB_zero, ← hn0', hρ]
      show _ :: (_ ++ sset bo _ ((bo, _) :: _)) = (_ :: _) ++ _
      rw [sset_self]
      rfl
    have hok' : CsOk cs' (i + 1) (ρ (i + 1) cs') := by
      have hne : ∀ j, j < i + 1 → cs' j ≠ bo ∧ cs' j ≠ b1 := fun j hj => by
        by_cases h : j = i
        · subst h; rw [hci]; exact ⟨Ne.symm hco, Ne.symm hc1⟩
        · rw [← hcj j (by omega)]
          exact ⟨fun e => (by have := hcs.fr j (by omega); rw [e, go] at this; cases this), fun e => (by have := hcs.fr j (by omega); rw [e, g1] at this; cases this)⟩
      refine ⟨fun j k hj hk e => ?_, fun j hj => ?_⟩
      · by_cases h1 : j = i
        · by_cases h2 : k = i
          · omega
          · rw [h1, hci, ← hcj k (by omega)] at e
            exact absurd e.symm (hcc k (by omega))
        · by_cases h2 : k = i
          · rw [h2, hci, ← hcj j (by omega)] at e
            exact absurd e (hcc j (by omega))
          · rw [← hcj j (by omega), ← hcj k (by omega)] at e
            exact hcs.inj j k (by omega) (by omega) e
      · rw [hρ]
        show sget (cs' j) ((bo, _) :: (b1, _) :: []) = none
        rw [sget_cons, if_neg (hne j hj).1, sget_cons, if_neg (hne j hj).2]
        rfl
    rw [hst]
    refine ⟨hlt, ?_⟩
    refine hK _ _ ?_; clear hK K
    have hlm : i < m.edges.length := by omega
    have hg := getD_map_lt XEdge.d m.edges i hlm
    rw [XEdge.d] at hg
    have hen : edgeN m i = m.edges[i] := by unfold edgeN; rw [getD_lt _ _ _ hlm]
    have hsm := hs _ (List.getElem_mem hlm)
    have hg1' := fun f => cellsR_dom (n := n) (f := f) hok' (g1 (i + 1) cs')
    have hgo' := fun f => cellsR_dom (n := n) (f := f) hok' (go (i + 1) cs')
    refine Gs.sq (Gs.rg [1, 3, 4, 5] fun K hK => ?_); simp (maxSteps:=9^7) only [go_sem, hg1', hll, hg, hi0, hi1]
    refine ⟨_, Tryz.call46, (refNeeds_calls m.edges[i] _ hsm).mono ?_⟩
    rintro e σ1 ⟨rfl, rfl⟩
    simp only [go_sem]
    refine hK _ _ ?_; clear hK K
    rw [← hen]
    obtain ⟨q, hq⟩ : ∃ q, q = (edgeN m i).needs := ⟨_, rfl⟩
    rw [← hq]
    have hql : (q.map sD).length = q.length := List.length_map ..
    have hqn : q.length ≤ 30 := by rw [hq, hen]; exact needs_len _ hsm
    refine Gs.sq (Gs.rg [1, 3, 4, 5, 6] fun K hK => ?_); simp (maxSteps:=9^7) only [go_sem]
    refine hK _ _ ?_; clear hK K
    refine Gs.bk ?_
    refine Gs.rebase [1, 3, 4, 5, 6, 7] ?_
    simp only [go_sem]
    refine Gs.while (fun (j : Nat) env' σ'' => (j ≤ q.length) ∧ env' = [(1, .ptr b1 2 0 0), (3, .v (.int .i64 (n : Int))), (4, .own (some bo) 1 n), (5, .v (.int .i64 (i : Int))), (6, .slc (q.map sD)), (7, .v (.int .i64 (j : Int)))] ∧ σ'' = cellsR n cs' (n2 m i j) (i + 1) ++ ρ (i + 1) cs') (fun (j : Nat) => q.length - j) 0 ⟨Nat.zero_le _, rfl, rfl⟩ ?_
    rintro j env' σ'' ⟨hj, rfl, rfl⟩ ih
    have ih2 := ih
    refine Gs.sq (Gs.sq ?_)
    refine Gs.rg [1, 3, 4, 5, 6, 7] fun K hK => ?_; simp (maxSteps:=9^7) only [go_sem, hql]
    refine hK _ _ ?_; clear hK K
    refine Gs.cond rfl (fun h36 => ?_) (fun h36 => ?_)
    · have hltj : j < q.length := Int.ofNat_lt.1 (by simpa using h36)
      have hgj := getD_map_lt sD q j hltj
      rw [sD] at hgj
      have hj0 : (0 : Int) ≤ (j : Int) := by omega
      have hj1 : (j : Int) < (q.length : Int) := by omega
      have hlq : j < (edgeN m i).needs.length := by rw [← hq]; exact hltj
      have hqe : q[j] = (edgeN m i).needs[j] := by simp only [hq]
      refine Gs.sk ?_
      refine Gs.sq ?_
      refine Gs.bk ?_
      refine Gs.sq ?_
      refine Gs.draw [1, 3, 4, 5, 6, 7] [] [b1] [] [(0, true), (1, true), (2, true), (3, true), (4, true), (5, false), (6, true)] (by kernel_rfl) (by decide) (by kernel_rfl) fun K hK => ?_; simp (maxSteps:=9^7) only [go_sem, hg1', hql, hgj, hj0, hj1]
      refine ⟨_, Tryz.call47, (maker_calls m q[j] _ (by omega) (fun e he => by have := (hs e he).outs; omega)).mono ?_⟩
      rintro e σ1 ⟨rfl, rfl⟩
      simp only [go_sem, hg1']
      refine hK _ _ ?_; clear hK K
      refine Gs.sq ?_
      rcases (show makerI m q[j] < 0 ∨ ∃ x : Nat, makerI m q[j] = x ∧ x < n from by
        have := makerI_lt m q[j]
        by_cases h : makerI m q[j] < 0
        · exact .inl h
        · exact .inr ⟨(makerI m q[j]).toNat, by omega, by omega⟩) with hx | ⟨x, hx, hxn⟩
      · have hdc : decide (makerI m q[j] ≥ 0) = false := decide_eq_false (by omega)
        refine Gs.rg [1, 3, 4, 5, 6, 7, 8] fun K hK => ?_; simp (maxSteps:=9^7) only [go_sem, hdc]
        refine hK _ _ ?_; clear hK K
        refine Gs.condF rfl ?_
        refine Gs.sk ?_
        refine Gs.ib ?_
        refine Gs.rg [1, 3, 4, 5, 6, 7] fun K hK => ?_; simp (maxSteps:=9^7) only [go_sem]
        refine hK _ _ ?_; clear hK K
        refine Gs.rebase [1, 3, 4, 5, 6, 7] ?_
        simp only [go_sem]
        rw [wrap_succ j (by omega), n2_skip m i j hlq (by rw [← hqe]; exact hx)]
        exact ih2 (j + 1) _ _ ⟨by omega, rfl, rfl⟩ (by omega)
      · refine Gs.rg [1, 3, 4, 5, 6, 7, 8] fun K hK => ?_; simp (maxSteps:=9^7) only [go_sem, hx]
        refine hK _ _ ?_; clear hK K
        refine Gs.condT rfl ?_
        have hx0 : (0 : Int) ≤ (x : Int) := by omega
        have hx1 : (x : Int) < (n : Int) := by omega
        have hgc := cellsR_get (n := n) (f := n2 m i j) hok' (Nat.lt_succ_self i)
        have htg := topR_get cs' hlt (Nat.lt_succ_self i)
        have htl' := topR_len n cs' (i + 1)
        have hrl := rowB_len n (n2 m i j i)
        have hrg := rowB_get (n2 m i j i) hxn
        refine Gs.rg [1, 3, 4, 5, 6, 7, 8] fun K hK => ?_; simp (maxSteps:=9^7) only [go_sem, hgo', hi0, hi1, hx0, hx1, htg, htl', hgc, hrl, hrg]
        refine ⟨hlt, hxn, ?_⟩
        rw [rowB_set, cellsR_set hok' (Nat.lt_succ_self i), n2_put m i j hlq (by rw [← hqe]; exact hx)]
        refine hK _ _ ?_; clear hK K
        refine Gs.ib ?_
        refine Gs.rg [1, 3, 4, 5, 6, 7] fun K hK => ?_; simp (maxSteps:=9^7) only [go_sem]
        refine hK _ _ ?_; clear hK K
        refine Gs.rebase [1, 3, 4, 5, 6, 7] ?_
        simp only [go_sem]
        rw [wrap_succ j (by omega)]
        exact ih2 (j + 1) _ _ ⟨by omega, rfl, rfl⟩ (by omega)
    · have hje : j = q.length := by
        have h : (q.length : Int) ≤ j := by simpa using h36
        omega
      subst hje
      rw [hq, n2_row m i hlm]
      refine Gs.exit rfl ?_
      refine Gs.ib ?_
      refine Gs.rg [1, 3, 4, 5] fun K hK => ?_; simp (maxSteps:=9^7) only [go_sem]
      refine hK _ _ ?_; clear hK K
      refine Gs.rebase [1, 3, 4, 5] ?_
      simp only [go_sem]
      rw [wrap_succ i (by omega)]
      exact ih1 (i + 1) _ _ ⟨cs', ⟨by omega, hok'⟩, rfl, rfl⟩ (by omega)
  · have hie : i = n := by
      have h : (n : Int) ≤ i := by simpa using h19
      omega
    subst hie
    have hF : n2 m i 0 = need1 m := by rw [hn]; exact n2_end m
    rw [hF]
    obtain ⟨F, hFF⟩ : ∃ F, F = need1 m := ⟨_, rfl⟩
    rw [← hFF]
    have hgo' := fun f => cellsR_dom (n := i) (f := f) hcs (go i cs)
    have htl := topR_len i cs i
    have htg := fun {k : Nat} (h : k < i) => topR_get cs h h
    have hgc := fun (f : Nat → Nat → Bool) {k : Nat} (h : k < i) => cellsR_get (n := i) (f := f) hcs h
    refine Gs.exit rfl ?_
    refine Gs.sq (Gs.sq ?_)
    refine Gs.rg [3, 4] fun K hK => ?_; simp (maxSteps:=9^7) only [go_sem]
    refine hK _ _ ?_; clear hK K
    refine Gs.bk ?_
    refine Gs.rebase [3, 4, 9] ?_
    simp only [go_sem]
    refine Gs.while (fun (k : Nat) env' σ'' => (k ≤ i) ∧ env' = [(3, .v (.int .i64 (i : Int))), (4, .own (some bo) 1 i), (9, .v (.int .i64 (k : Int)))] ∧ σ'' = cellsR i cs (wK i F k) i ++ ρ i cs) (fun (k : Nat) => i - k) 0 ⟨Nat.zero_le _, rfl, rfl⟩ ?_
    rintro k env' σ'' ⟨hk, rfl, rfl⟩ ih
    have ih3 := ih
    refine Gs.sq (Gs.sq ?_)
    refine Gs.rg [3, 4, 9] fun K hK => ?_; simp (maxSteps:=9^7) only [go_sem]
    refine hK _ _ ?_; clear hK K
    refine Gs.cond rfl (fun h55 => ?_) (fun h55 => ?_)
    · have hkn : k < i := Int.ofNat_lt.1 (by simpa using h55)
      refine Gs.sk ?_
      refine Gs.sq ?_
      refine Gs.bk ?_
      refine Gs.sq (Gs.rg [3, 4, 9] fun K hK => ?_); simp (maxSteps:=9^7) only [go_sem]
      refine hK _ _ ?_; clear hK K
      refine Gs.bk ?_
      refine Gs.rebase [3, 4, 9, 10] ?_
      simp only [go_sem]
      refine Gs.while (fun (a : Nat) env' σ'' => (a ≤ i) ∧ env' = [(3, .v (.int .i64 (i : Int))), (4, .own (some bo) 1 i), (9, .v (.int .i64 (k : Int))), (10, .v (.int .i64 (a : Int)))] ∧ σ'' = cellsR i cs (wI i k (wK i F k) a) i ++ ρ i cs) (fun (a : Nat) => i - a) 0 ⟨Nat.zero_le _, rfl, rfl⟩ ?_
      rintro a env' σ'' ⟨ha, rfl, rfl⟩ ih
      have ih4 := ih
      refine Gs.sq (Gs.sq ?_)
      refine Gs.rg [3, 4, 9, 10] fun K hK => ?_; simp (maxSteps:=9^7) only [go_sem]
      refine hK _ _ ?_; clear hK K
      refine Gs.cond rfl (fun h60 => ?_) (fun h60 => ?_)
      · have han : a < i := Int.ofNat_lt.1 (by simpa using h60)
        refine Gs.sk ?_
        refine Gs.sq ?_
        refine Gs.bk ?_
        refine Gs.sq (Gs.rg [3, 4, 9, 10] fun K hK => ?_); simp (maxSteps:=9^7) only [go_sem]
        refine hK _ _ ?_; clear hK K
        refine Gs.bk ?_
        refine Gs.rebase [3, 4, 9, 10, 11] ?_
        simp only [go_sem]
        refine Gs.while (fun (j : Nat) env' σ'' => (j ≤ i) ∧ env' = [(3, .v (.int .i64 (i : Int))), (4, .own (some bo) 1 i), (9, .v (.int .i64 (k : Int))), (10, .v (.int .i64 (a : Int))), (11, .v (.int .i64 (j : Int)))] ∧ σ'' = cellsR i cs (wJ k a (wI i k (wK i F k) a) j) i ++ ρ i cs) (fun (j : Nat) => i - j) 0 ⟨Nat.zero_le _, rfl, rfl⟩ ?_
        rintro j env' σ'' ⟨hj, rfl, rfl⟩ ih
        have ih5 := ih
        refine Gs.sq (Gs.sq ?_)
        refine Gs.rg [3, 4, 9, 10, 11] fun K hK => ?_; simp (maxSteps:=9^7) only [go_sem]
        refine hK _ _ ?_; clear hK K
        refine Gs.cond rfl (fun h65 => ?_) (fun h65 => ?_)
        · have hjn : j < i := Int.ofNat_lt.1 (by simpa using h65)
          obtain ⟨f, hf⟩ : ∃ f, f = wJ k a (wI i k (wK i F k) a) j := ⟨_, rfl⟩
          have hfs : wJ k a (wI i k (wK i F k) a) (j + 1) = if (f a k && f k j) = true then putR f a j else f := by rw [wJ, hf]
          rw [← hf]
          have hk0 : (0 : Int) ≤ (k : Int) := by omega
          have hk1 : (k : Int) < (i : Int) := by omega
          have ha0 : (0 : Int) ≤ (a : Int) := by omega
          have ha1 : (a : Int) < (i : Int) := by omega
          have hj0 : (0 : Int) ≤ (j : Int) := by omega
          have hj1 : (j : Int) < (i : Int) := by omega
          have g1' := hgc f han
          have g2' := hgc f hkn
          have t1 := htg han
          have t2 := htg hkn
          have r1 := rowB_get (f a) hkn
          have r2 := rowB_get (f k) hjn
          have r3 := rowB_get (f a) hjn
          have n1 := rowB_len i (f a)
          have n2 := rowB_len i (f k)
          refine Gs.sk ?_
          refine Gs.sq ?_
          refine Gs.bk ?_
          refine Gs.sq ?_
          rcases (show f a k = false ∨ (f a k = true ∧ f k j = false) ∨ (f a k = true ∧ f k j = true) from by cases f a k <;> cases f k j <;> simp) with x1 | ⟨x1, x2⟩ | ⟨x1, x2⟩
          · refine Gs.rg [3, 4, 9, 10, 11] fun K hK => ?_; simp (maxSteps:=9^7) only [go_sem, hgo', htl, t1, g1', r1, n1, ha0, ha1, hk0, hk1, x1, han, hkn]
            refine hK _ _ ?_; clear hK K
            refine Gs.condF rfl ?_
            refine Gs.sk ?_
            refine Gs.ib ?_
            refine Gs.rg [3, 4, 9, 10, 11] fun K hK => ?_; simp (maxSteps:=9^7) only [go_sem]
            refine hK _ _ ?_; clear hK K
            refine Gs.rebase [3, 4, 9, 10, 11] ?_
            simp only [go_sem]
            have hfe : wJ k a (wI i k (wK i F k) a) (j + 1) = f := by rw [hfs, x1]; rfl
            rw [wrap_succ j (by omega), ← hfe]
            exact ih5 (j + 1) _ _ ⟨by omega, rfl, rfl⟩ (by omega)
          · refine Gs.rg [3, 4, 9, 10, 11] fun K hK => ?_; simp (maxSteps:=9^7) only [go_sem, hgo', htl, t1, t2, g1', g2', r1, r2, n1, n2, ha0, ha1, hk0, hk1, hj0, hj1, x1, x2, han, hkn, hjn]
            refine hK _ _ ?_; clear hK K
            refine Gs.condF rfl ?_
            refine Gs.sk ?_
            refine Gs.ib ?_
            refine Gs.rg [3, 4, 9, 10, 11] fun K hK => ?_; simp (maxSteps:=9^7) only [go_sem]
            refine hK _ _ ?_; clear hK K
            refine Gs.rebase [3, 4, 9, 10, 11] ?_
            simp only [go_sem]
            have hfe : wJ k a (wI i k (wK i F k) a) (j + 1) = f := by rw [hfs, x1, x2]; rfl
            rw [wrap_succ j (by omega), ← hfe]
            exact ih5 (j + 1) _ _ ⟨by omega, rfl, rfl⟩ (by omega)
          · refine Gs.rg [3, 4, 9, 10, 11] fun K hK => ?_; simp (maxSteps:=9^7) only [go_sem, hgo', htl, t1, t2, g1', g2', r1, r2, n1, n2, ha0, ha1, hk0, hk1, hj0, hj1, x1, x2, han, hkn, hjn]
            refine hK _ _ ?_; clear hK K
            refine Gs.condT rfl ?_
            refine Gs.rg [3, 4, 9, 10, 11] fun K hK => ?_; simp (maxSteps:=9^7) only [go_sem, hgo', htl, t1, g1', r3, n1, ha0, ha1, hj0, hj1]
            refine ⟨han, hjn, ?_⟩
            have hpr : (fun x => if x = a then (fun c => if c = j then true else f a c) else f x) = putR f a j := by
              funext x c
              unfold putR
              by_cases h1 : x = a
              · subst h1
                rw [if_pos rfl]
                by_cases h2 : c = j
                · rw [if_pos h2, if_pos ⟨rfl, h2⟩]
                · rw [if_neg h2, if_neg (fun h => h2 h.2)]
              · rw [if_neg h1, if_neg (fun h => h1 h.1)]
            rw [rowB_set, cellsR_set hcs han, hpr]
            refine hK _ _ ?_; clear hK K
            refine Gs.ib ?_
            refine Gs.rg [3, 4, 9, 10, 11] fun K hK => ?_; simp (maxSteps:=9^7) only [go_sem]
            refine hK _ _ ?_; clear hK K
            refine Gs.rebase [3, 4, 9, 10, 11] ?_
            simp only [go_sem]
            have hfe : wJ k a (wI i k (wK i F k) a) (j + 1) = putR f a j := by rw [hfs, x1, x2]; rfl
            rw [wrap_succ j (by omega), ← hfe]
            exact ih5 (j + 1) _ _ ⟨by omega, rfl, rfl⟩ (by omega)
        · have hji : j = i := by
            have h : (i : Int) ≤ j := by simpa using h65
            omega
          subst hji
          refine Gs.exit rfl ?_
          refine Gs.ib ?_
          refine Gs.rg [3, 4, 9, 10] fun K hK => ?_; simp (maxSteps:=9^7) only [go_sem]
          refine hK _ _ ?_; clear hK K
          refine Gs.rebase [3, 4, 9, 10] ?_
          simp only [go_sem]
          rw [wrap_succ a (by omega)]
          exact ih4 (a + 1) _ _ ⟨by omega, rfl, rfl⟩ (by omega)
      · have hai : a = i := by
          have h : (i : Int) ≤ a := by simpa using h60
          omega
        subst hai
        refine Gs.exit rfl ?_
        refine Gs.ib ?_
        refine Gs.rg [3, 4, 9] fun K hK => ?_; simp (maxSteps:=9^7) only [go_sem]
        refine hK _ _ ?_; clear hK K
        refine Gs.rebase [3, 4, 9] ?_
        simp only [go_sem]
        rw [wrap_succ k (by omega)]
        exact ih3 (k + 1) _ _ ⟨by omega, rfl, rfl⟩ (by omega)
    · have hki : k = i := by
        have h : (i : Int) ≤ k := by simpa using h55
        omega
      subst hki
      have hcb : ∀ j, j < k → cs j ≠ bo := fun j hj e => by have := hcs.fr j hj; rw [e, go] at this; cases this
      refine Gs.rebase [4] ?_
      simp only [go_sem]
      refine Gs.le (ELe.refl _) (σ' := cellsR k cs (wK k F k) k ++ [(bo, AObj.arr 1 (endR k cs (wK k F k) k))]) (by
        rw [endR_top, hρ]
        show SLe (cellsR k cs (wK k F k) k ++ [_]) (cellsR k cs (wK k F k) k ++ ([_] ++ [_]))
        rw [← List.append_assoc]
        exact SLe.append_left _ _) ?_
      refine Gs.pubRows (Nat.le_refl _) (fun x y hx hy e => hcs.inj x y hx hy e) hcb (fun x s xs hx => ?_) ?_
      · show [(4, D.pub (cs x) s xs (.own (some bo) 1 k))] = _
        rw [pub_own_no (fun e => hcb x hx e.symm)]
      refine Gs.publish bo (sget_self ..) ?_
      have hel : (endR k cs (wK k F k) 0).length = k := by unfold endR; simp
      have hep : epub bo 1 (endR k cs (wK k F k) 0) [(4, .own (some bo) 1 k)] = [(4, .slc (endR k cs (wK k F k) 0))] := by
        show [(4, D.pub bo 1 (endR k cs (wK k F k) 0) (.own (some bo) 1 k))] = _
        simp only [D.pub]
        rw [if_pos ⟨trivial, trivial, by omega⟩, List.take_of_length_le (by omega)]
      rw [hep]
      refine Gs.exit rfl ?_
      refine Gs.sq (Gs.rg [4] fun K hK => ?_); simp (maxSteps:=9^7) only [go_sem]
      refine hK _ _ ?_; clear hK K
      refine Gs.ret hC Tryz.func58 (by simp [go_sem]) ?_
      simp only [go_sem]
      have hbel : endR k cs (wK k F k) 0 = (List.range m.edges.length).map fun a => .slc (rowB m.edges.length (belB m a)) := by
        unfold endR
        rw [← hn]
        refine List.map_congr_left fun a _ => ?_
        rw [if_neg (Nat.not_lt_zero _), hFF]
        unfold belB
        rw [← hn]
      unfold belD
      rw [← hbel]
end Go.Ab.S16
namespace Go.Ab.S16
open Go Go.Proofs Go.RowKit
theorem put_none (s : ByteArray) (σ : Store) :
    AC Tryz.prog 59 [.slc [], .v (.string s)] σ (fun e σ' => ∃ o, GrD o 1 [sD s] σ ∧ e = .ret (.own o 1 1) ∧ σ' = cellsOf o 1 [sD s] ++ σ) := by
  refine AC.of_body Tryz.func59 rfl Tryz.ntmps59 (by simp) fun C hC => ?_
  refine Gs.sq (Gs.rg [0, 1] fun K hK => ?_); simp (maxSteps:=9^7) only [go_sem]
  refine hK _ _ ?_; clear hK K
  refine Gs.sq (Gs.rg [0, 1] fun K hK => ?_); simp (maxSteps:=9^7) only [go_sem]
  refine hK _ _ ?_; clear hK K
  refine Gs.sq ?_
  refine Gs.bk ?_
  refine Gs.rebase [0, 1, 5] ?_
  simp only [go_sem]
  refine Gs.while (fun (i : Nat) env' σ'' => (i = 0) ∧ env' = [(0, .slc []), (1, .v (.string s)), (5, .v (.int .i64 (i : Int)))] ∧ σ = σ'') (fun (i : Nat) => i) 0 ⟨rfl, rfl, rfl⟩ ?_
  rintro i env' σ'' ⟨rfl, rfl, rfl⟩ ih
  have ih1 := ih
  refine Gs.sq (Gs.sq ?_)
  refine Gs.rg [0, 1, 5] fun K hK => ?_; simp (maxSteps:=9^7) only [go_sem]
  refine hK _ _ ?_; clear hK K
  refine Gs.condF rfl ?_
  refine Gs.exit rfl ?_
  refine Gs.sq (Gs.sq ?_)
  refine Gs.rg [0, 1, 5] fun K hK => ?_; simp (maxSteps:=9^7) only [go_sem]
  refine hK _ _ ?_; clear hK K
  refine Gs.condF rfl ?_
  refine Gs.sk ?_
  refine Gs.sq ?_
  refine Gs.regionM [0, 1, 5] [40] fun K hK => ?_; simp (maxSteps:=9^7) only [go_sem]
  refine ⟨by decide, fun b hb => ⟨by decide, by decide, fun ob hf => ?_⟩⟩
  rw [sdel_fresh hb] at hf ⊢
  simp only [sdelo_cells hf, ite_self]
  refine ⟨by decide, ⟨Nat.le_refl _, fun y hy => by subst hy; exact ⟨rfl, rfl⟩, by decide⟩, fun ob2 hz2 hf2 => ?_⟩
  refine hK _ _ ?_; clear hK K
  have hg2 : GrD ob2 1 [D.v (.string s)] σ := ⟨hf2, fun e => (hz2 e).elim⟩
  have ho2 := hg2.oget
  have hd2 := hg2.sdel
  refine Gs.sq (Gs.rg [0, 5, 6] fun K hK => ?_); simp (maxSteps:=9^7) only [go_sem, ho2, hd2]
  refine ⟨⟨by decide, by decide⟩, by decide, fun ob3 hz3 hf3 => ?_⟩
  refine hK _ _ ?_; clear hK K
  refine Gs.ret hC Tryz.func59 (by simp [go_sem]) ?_
  simp only [go_sem]
  exact ⟨ob3, ⟨hf3, fun e => (hz3 e).elim⟩, rfl, rfl⟩
theorem put_someO (b0 : Nat) (l : List ByteArray) (s : ByteArray) (σ : Store) (hb0 : sget b0 σ = some (.arr 1 (l.map sD))) (hl : l.length < 2 ^ 40) :
    AC Tryz.prog 59 [.own (some b0) 1 l.length, .v (.string s)] σ (fun e σ' => (putL s l = l ∧ e = .ret (.own (some b0) 1 l.length) ∧ σ' = σ) ∨ ∃ o, GrD o 1 ((putL s l).map sD) σ ∧ e = .ret (.own o 1 ((putL s l).map sD).length) ∧ σ' = cellsOf o 1 ((putL s l).map sD) ++ σ) := by
  have hll : (l.map sD).length = l.length := List.length_map ..
  have hti : ∀ i, (List.take i (l.map sD)).length = min i l.length := fun i => by rw [List.length_take, hll]
  refine AC.of_body Tryz.func59 rfl Tryz.ntmps59 (by simp) fun C hC => ?_
  refine Gs.sq (Gs.rg [0, 1] fun K hK => ?_); simp (maxSteps:=9^7) only [go_sem]
  refine hK _ _ ?_; clear hK K
  refine Gs.sq (Gs.rg [0, 1] fun K hK => ?_); simp (maxSteps:=9^7) only [go_sem]
  refine hK _ _ ?_; clear hK K
  refine Gs.sq ?_
  refine Gs.bk ?_
  refine Gs.rebase [0, 1, 5] ?_
  simp only [go_sem]
  refine Gs.while (fun (i : Nat) env' σ'' => (i ≤ l.length ∧ ∀ x ∈ l.take i, bL x < bL s) ∧ env' = [(0, .own (some b0) 1 l.length), (1, .v (.string s)), (5, .v (.int .i64 (i : Int)))] ∧ σ = σ'') (fun (i : Nat) => l.length - i) 0 ⟨⟨by omega, by simp⟩, rfl, rfl⟩ ?_
  rintro i env' σ'' ⟨⟨hi, hall⟩, rfl, rfl⟩ ih
  have ih1 := ih
  refine Gs.sq (Gs.sq ?_)
  rcases Nat.lt_or_ge i l.length with hlt | hge
  · have hd : decide ((i : Int) < (l.length : Int)) = true := decide_eq_true (by omega)
    have hg := getD_map_lt sD l i hlt
    rw [sD] at hg
    have hi0 : (0 : Int) ≤ (i : Int) := by omega
    have hi1 : (i : Int) < (l.length : Int) := by omega
    refine Gs.rg [0, 1, 5] fun K hK => ?_; simp (maxSteps:=9^7) only [go_sem, hb0, hll, hd, hg, hi0, hi1, decide_true]
    refine ⟨hlt, ?_⟩
    refine hK _ _ ?_; clear hK K
    refine Gs.cond rfl (fun h18 => ?_) (fun h18 => ?_)
    · have hb : bL l[i] < bL s := by
        have := h18
        rw [Go.Proofs.bytesLess_eq, tl_data, tl_data] at this
        exact of_decide_eq_true this
      refine Gs.sk ?_
      refine Gs.bk ?_
      refine Gs.rg [0, 1, 5] fun K hK => ?_; simp (maxSteps:=9^7) only [go_sem]
      refine hK _ _ ?_; clear hK K
      refine Gs.ib ?_
      refine Gs.rebase [0, 1, 5] ?_
      simp only [go_sem]
      rw [wrap_succ i (by omega)]
      refine ih (i + 1) _ _ ⟨⟨by omega, fun x hx => ?_⟩, rfl, rfl⟩ (by omega)
      rw [List.take_succ_eq_append_getElem hlt] at hx
      rcases List.mem_append.1 hx with hx | hx
      · exact hall x hx
      · simp only [List.mem_singleton] at hx; rw [hx]; exact hb
    · have hb : ¬ bL l[i] < bL s := by
        have := h18
        rw [Go.Proofs.bytesLess_eq, tl_data, tl_data] at this
        exact of_decide_eq_false this
      have hput := putL_at hi hall
      rw [List.drop_eq_getElem_cons hlt, putL, if_neg hb] at hput
      refine Gs.exit rfl ?_
      refine Gs.sq (Gs.sq ?_)
      by_cases hq : l[i] = s
      · have hbq : (l[i].toList == s.toList) = true := by rw [hq]; simp
        refine Gs.rg [0, 1, 5] fun K hK => ?_; simp (maxSteps:=9^7) only [go_sem, hb0, hll, hd, hg, hi0, hi1, decide_true, hbq]
        refine ⟨hlt, ?_⟩
        refine hK _ _ ?_; clear hK K
        refine Gs.condT rfl ?_
        refine Gs.sq (Gs.rg [0] fun K hK => ?_); simp (maxSteps:=9^7) only [go_sem]
        refine hK _ _ ?_; clear hK K
        refine Gs.ret hC Tryz.func59 (by simp [go_sem]) ?_
        simp only [go_sem]
        rw [if_pos hq] at hput
        rw [← List.drop_eq_getElem_cons hlt, List.take_append_drop] at hput
        exact .inl hput
      · have hbq : (l[i].toList == s.toList) = false := by
          rw [tl_data, tl_data]
          exact beq_false_of_ne fun e => hq (by rw [← lB_bL l[i], ← lB_bL s]; exact congrArg lB e)
        rw [if_neg hq, ← List.drop_eq_getElem_cons hlt] at hput
        refine Gs.rg [0, 1, 5] fun K hK => ?_; simp (maxSteps:=9^7) only [go_sem, hb0, hll, hd, hg, hi0, hi1, decide_true, hbq]
        refine ⟨hlt, ?_⟩
        refine hK _ _ ?_; clear hK K
        refine Gs.condF rfl ?_
        refine Gs.sk ?_
        refine Gs.sq ?_
        have hog : oget 1 (some b0) σ = some (l.map sD) := by simp only [oget, hb0, if_true]
        have hil : i ≤ (l.map sD).length := by omega
        refine Gs.regionM [0, 1, 5] [34, 40] fun K hK => ?_; simp (maxSteps:=9^7) only [go_sem, hog, hll, hi]
        refine ⟨⟨by omega, by omega⟩, ⟨fun y hy => plain_sD _ y (List.mem_of_mem_take hy), by rw [hti]; omega, by rw [hti]; omega⟩, fun ob hz hf => ?_⟩
        have e1 : (if ob = none then [] else List.take i (l.map sD)) = List.take i (l.map sD) := by
          split
          · rename_i h; exact (hz h).symm
          · rfl
        have e2 : List.take (List.take i (l.map sD)).length (List.take i (l.map sD)) = List.take i (l.map sD) := List.take_of_length_le (Nat.le_refl _)
        simp only [e1, e2, sdelo_cells hf]
        refine ⟨by decide, ⟨Nat.le_refl _, fun y hy => by subst hy; exact ⟨rfl, rfl⟩, by rw [hti]; omega, by rw [hti]; omega⟩, fun ob2 hz2 hf2 => ?_⟩
        refine hK _ _ ?_; clear hK K
        have hg2 : GrD ob2 1 (List.take i (l.map sD) ++ [.v (.string s)]) σ := ⟨hf2, hz2⟩
        have ho2 := hg2.oget
        have hog2 := oget_grd hg2 hog
        have hd2 := hg2.sdel
        have htk2 : List.take (List.take i (l.map sD) ++ [D.v (.string s)]).length (List.take i (l.map sD) ++ [D.v (.string s)]) = List.take i (l.map sD) ++ [D.v (.string s)] := List.take_of_length_le (Nat.le_refl _)
        refine Gs.sq ?_
        have hts : ((l.length : Int) - (i : Int)).toNat = l.length - i := by omega
        have hle : i + (l.length - i) ≤ l.length := by omega
        have hys : List.take (l.length - i) (List.drop i (l.map sD)) = (l.drop i).map sD := by rw [← List.map_drop, List.take_of_length_le (by rw [List.length_map, List.length_drop]; exact Nat.le_refl _)]
        refine Gs.rg [0, 5, 6] fun K hK => ?_; simp (maxSteps:=9^7) only [go_sem, hog2, hll, ho2, hd2, htk2, hts, hle, hys]
        have hrow : List.take i (l.map sD) ++ [D.v (.string s)] ++ (l.drop i).map sD = (putL s l).map sD := by
          rw [hput, ← List.map_take]
          simp only [List.map_append, List.map_cons, List.map_nil, List.append_assoc, List.cons_append, List.nil_append]
          rfl
        refine ⟨⟨by omega, by omega⟩, ⟨Nat.le_refl _, plain_sD _, ?_, ?_⟩, fun ob hz hf => ?_⟩
        · simp only [List.length_append, List.length_map, List.length_drop, List.length_singleton, hti]; omega
        · simp only [List.length_append, List.length_map, List.length_drop, List.length_singleton, hti]; omega
        rw [hrow] at hz ⊢
        refine hK _ _ ?_; clear hK K
        refine Gs.ret hC Tryz.func59 (by simp [go_sem]) ?_
        simp only [go_sem]
        exact .inr ⟨ob, ⟨hf, hz⟩, rfl, rfl⟩
  · have hd : decide ((i : Int) < (l.length : Int)) = false := decide_eq_false (by omega)
    refine Gs.rg [0, 1, 5] fun K hK => ?_; simp (maxSteps:=9^7) only [go_sem, hll, hd]
    refine hK _ _ ?_; clear hK K
    refine Gs.condF rfl ?_
    refine Gs.exit rfl ?_
    refine Gs.sq (Gs.sq ?_)
    have hput := putL_at hi hall
    have hie : i = l.length := by omega
    refine Gs.rg [0, 1, 5] fun K hK => ?_; simp (maxSteps:=9^7) only [go_sem, hll, hd]
    refine hK _ _ ?_; clear hK K
    refine Gs.condF rfl ?_
    refine Gs.sk ?_
    refine Gs.sq ?_
    have hog : oget 1 (some b0) σ = some (l.map sD) := by simp only [oget, hb0, if_true]
    have hil : i ≤ (l.map sD).length := by omega
    refine Gs.regionM [0, 1, 5] [34, 40] fun K hK => ?_; simp (maxSteps:=9^7) only [go_sem, hog, hll, hi]
    refine ⟨⟨by omega, by omega⟩, ⟨fun y hy => plain_sD _ y (List.mem_of_mem_take hy), by rw [hti]; omega, by rw [hti]; omega⟩, fun ob hz hf => ?_⟩
    have e1 : (if ob = none then [] else List.take i (l.map sD)) = List.take i (l.map sD) := by
      split
      · rename_i h; exact (hz h).symm
      · rfl
    have e2 : List.take (List.take i (l.map sD)).length (List.take i (l.map sD)) = List.take i (l.map sD) := List.take_of_length_le (Nat.le_refl _)
    simp only [e1, e2, sdelo_cells hf]
    refine ⟨by decide, ⟨Nat.le_refl _, fun y hy => by subst hy; exact ⟨rfl, rfl⟩, by rw [hti]; omega, by rw [hti]; omega⟩, fun ob2 hz2 hf2 => ?_⟩
    refine hK _ _ ?_; clear hK K
    have hg2 : GrD ob2 1 (List.take i (l.map sD) ++ [.v (.string s)]) σ := ⟨hf2, hz2⟩
    have ho2 := hg2.oget
    have hog2 := oget_grd hg2 hog
    have hd2 := hg2.sdel
    have htk2 : List.take (List.take i (l.map sD) ++ [D.v (.string s)]).length (List.take i (l.map sD) ++ [D.v (.string s)]) = List.take i (l.map sD) ++ [D.v (.string s)] := List.take_of_length_le (Nat.le_refl _)
    refine Gs.sq ?_
    have hts : ((l.length : Int) - (i : Int)).toNat = l.length - i := by omega
    have hle : i + (l.length - i) ≤ l.length := by omega
    have hys : List.take (l.length - i) (List.drop i (l.map sD)) = (l.drop i).map sD := by rw [← List.map_drop, List.take_of_length_le (by rw [List.length_map, List.length_drop]; exact Nat.le_refl _)]
    refine Gs.rg [0, 5, 6] fun K hK => ?_; simp (maxSteps:=9^7) only [go_sem, hog2, hll, ho2, hd2, htk2, hts, hle, hys]
    have hrow : List.take i (l.map sD) ++ [D.v (.string s)] ++ (l.drop i).map sD = (putL s l).map sD := by
      rw [hput, ← List.map_take]
      simp only [hie, List.drop_length, putL, List.map_append, List.map_cons, List.map_nil, List.append_assoc, List.cons_append, List.nil_append]
      rfl
    refine ⟨⟨by omega, by omega⟩, ⟨Nat.le_refl _, plain_sD _, ?_, ?_⟩, fun ob hz hf => ?_⟩
    · simp only [List.length_append, List.length_map, List.length_drop, List.length_singleton, hti]; omega
    · simp only [List.length_append, List.length_map, List.length_drop, List.length_singleton, hti]; omega
    rw [hrow] at hz ⊢
    refine hK _ _ ?_; clear hK K
    refine Gs.ret hC Tryz.func59 (by simp [go_sem]) ?_
    simp only [go_sem]
    exact .inr ⟨ob, ⟨hf, hz⟩, rfl, rfl⟩
theorem put_O {o : Option Nat} {ρ : Store} (l : List ByteArray) (s : ByteArray) (hgr : GrD o 1 (l.map sD) ρ) (hl : l.length < 2 ^ 40) :
    AC Tryz.prog 59 [.own o 1 l.length, .v (.string s)] (cellsOf o 1 (l.map sD) ++ ρ) (fun e σ' => ∃ o2, GrD o2 1 ((putL s l).map sD) ρ ∧ e = .ret (.own o2 1 (putL s l).length) ∧ σ' = cellsOf o2 1 ((putL s l).map sD) ++ ρ) := by
  cases o with
  | none =>
    have hz : l = [] := by simpa using hgr.zero rfl
    subst hz
    exact (put_none s ρ).args_le fun w S vs h => by
      obtain ⟨v, vs, rfl, h1, h2⟩ := RepL.cons_inv h
      exact .cons (DLe.own_slc 1 0 w S v h1) h2
  | some b0 =>
    have hf := hgr.fresh b0 rfl
    refine AC.forget (put_someO b0 l s ((b0, .arr 1 (l.map sD)) :: ρ) (sget_self ..) hl) fun e σ' h => ?_
    rcases h with ⟨hp, rfl, rfl⟩ | ⟨o, hg, rfl, rfl⟩
    · exact ⟨_, SLe.refl _, some b0, by rw [hp]; exact hgr, by rw [hp], by rw [hp]; rfl⟩
    · have hdr := hg.drop hf
      exact ⟨_, hdr.2, o, hdr.1, by rw [List.length_map], rfl⟩
theorem refOuts_own (m : XMan) (σ : Store) (hl : m.edges.length < 2 ^ 20) (hs : ∀ e ∈ m.edges, e.small) :
    AC Tryz.prog 22 [m.d] σ (fun e σ' => ∃ o, GrD o 1 ((putAll [] (m.edges.flatMap XEdge.outs)).map sD) σ ∧ e = .ret (.own o 1 (putAll [] (m.edges.flatMap XEdge.outs)).length) ∧ σ' = cellsOf o 1 ((putAll [] (m.edges.flatMap XEdge.outs)).map sD) ++ σ) := by
  unfold XMan.d
  have hll : (m.edges.map XEdge.d).length = m.edges.length := List.length_map ..
  refine AC.of_body Tryz.func22 rfl Tryz.ntmps22 (by simp) fun C hC => ?_
  refine Gs.sq (Gs.rg [0] fun K hK => ?_); simp (maxSteps:=9^7) only [go_sem]
  intro b1 hb1
  refine hK _ _ ?_; clear hK K
  generalize hσ : (b1, AObj.arr 2 [D.agg [.slc (m.edges.map XEdge.d), .slc (m.defs.map sD)]]) :: σ = τ
  have g1 : sget b1 τ = some (.arr 2 [D.agg [.slc (m.edges.map XEdge.d), .slc (m.defs.map sD)]]) := by rw [← hσ, sget_self]
  refine Gs.sq (Gs.rg [1] fun K hK => ?_); simp (maxSteps:=9^7) only [go_sem]
  refine hK _ _ ?_; clear hK K
  refine Gs.sq (Gs.sq ?_)
  refine Gs.rg [1, 3] fun K hK => ?_; simp (maxSteps:=9^7) only [go_sem]
  refine hK _ _ ?_; clear hK K
  refine Gs.bk ?_
  refine Gs.nilOwn 3 1 rfl ?_
  refine Gs.rebase [1, 3, 4] ?_
  simp only [go_sem]
  refine Gs.while (fun (i : Nat) env' σ'' => ∃ o : Option Nat, (i ≤ m.edges.length ∧ GrD o 1 ((putAll [] (outsTo m i)).map sD) τ) ∧ env' = [(1, .ptr b1 2 0 0), (3, .own o 1 (putAll [] (outsTo m i)).length), (4, .v (.int .i64 (i : Int)))] ∧ σ'' = cellsOf o 1 ((putAll [] (outsTo m i)).map sD) ++ τ) (fun (i : Nat) => m.edges.length - i) 0 ⟨none, ⟨by omega, GrD.nil _ _⟩, rfl, rfl⟩ ?_
  rintro i env' σ'' ⟨o, ⟨hi, hgr⟩, rfl, rfl⟩ ih
  have ih1 := ih
  refine Gs.sq (Gs.sq ?_)
  have g1o := hgr.keep g1
  refine Gs.rg [1, 3, 4] fun K hK => ?_; simp (maxSteps:=9^7) only [go_sem, g1o, hll]
  refine hK _ _ ?_; clear hK K
  refine Gs.cond rfl (fun h10 => ?_) (fun h10 => ?_)
  · have hlt : i < m.edges.length := by simpa using h10
    have hg := getD_map_lt XEdge.d m.edges i hlt
    rw [XEdge.d] at hg
    have hi0 : (0 : Int) ≤ (i : Int) := by omega
    have hi1 : (i : Int) < (m.edges.length : Int) := by omega
    have hsm := (hs _ (List.getElem_mem hlt)).outs
    have hol : (m.edges[i].outs.map sD).length = m.edges[i].outs.length := List.length_map ..
    have hul := outsTo_len m hs i hi
    have hsu := outsTo_succ m i hlt
    refine Gs.sk ?_
    refine Gs.sq ?_
    refine Gs.bk ?_
    refine Gs.sq (Gs.rg [1, 3, 4] fun K hK => ?_); simp (maxSteps:=9^7) only [go_sem]
    refine hK _ _ ?_; clear hK K
    refine Gs.bk ?_
    refine Gs.rebase [1, 3, 4, 5] ?_
    simp only [go_sem]
    refine Gs.while (fun (j : Nat) env' σ'' => ∃ o : Option Nat, (j ≤ m.edges[i].outs.length ∧ GrD o 1 ((putAll (putAll [] (outsTo m i)) (m.edges[i].outs.take j)).map sD) τ) ∧ env' = [(1, .ptr b1 2 0 0), (3, .own o 1 (putAll (putAll [] (outsTo m i)) (m.edges[i].outs.take j)).length), (4, .v (.int .i64 (i : Int))), (5, .v (.int .i64 (j : Int)))] ∧ σ'' = cellsOf o 1 ((putAll (putAll [] (outsTo m i)) (m.edges[i].outs.take j)).map sD) ++ τ) (fun (j : Nat) => m.edges[i].outs.length - j) 0 ⟨o, ⟨by omega, hgr⟩, rfl, rfl⟩ ?_
    rintro j env' σ'' ⟨o, ⟨hj, hgr⟩, rfl, rfl⟩ ih
    have ih2 := ih
    refine Gs.sq (Gs.sq ?_)
    have g1o := hgr.keep g1
    refine Gs.rg [1, 3, 4, 5] fun K hK => ?_; simp (maxSteps:=9^7) only [go_sem, g1o, hll, hg, hi0, hi1, hol]
    refine hK _ _ ?_; clear hK K
    refine Gs.cond rfl (fun h21 => ?_) (fun h21 => ?_)
    · have hltj : j < m.edges[i].outs.length := by simpa using h21
      have hgj := getD_map_lt sD m.edges[i].outs j hltj
      rw [sD] at hgj
      have hj0 : (0 : Int) ≤ (j : Int) := by omega
      have hj1 : (j : Int) < (m.edges[i].outs.length : Int) := by omega
      have hp1 := putAll_len [] (outsTo m i)
      have hp2 := putAll_len (putAll [] (outsTo m i)) (m.edges[i].outs.take j)
      have hp3 : (m.edges[i].outs.take j).length ≤ 10 := by rw [List.length_take]; omega
      simp only [List.length_nil] at hp1
      refine Gs.sk ?_
      refine Gs.sq ?_
      refine Gs.bk ?_
      refine Gs.rg [1, 3, 4, 5] fun K hK => ?_; simp (maxSteps:=9^7) only [go_sem, g1o, hll, hg, hi0, hi1, hol, hgj, hj0, hj1]
      refine ⟨_, Tryz.call59, (put_O _ m.edges[i].outs[j] hgr (by omega)).mono ?_⟩
      rintro e σ1 ⟨o2, hgr2, rfl, rfl⟩
      simp only [go_sem]
      refine hK _ _ ?_; clear hK K
      refine Gs.ib ?_
      refine Gs.rg [1, 3, 4, 5] fun K hK => ?_; simp (maxSteps:=9^7) only [go_sem]
      refine hK _ _ ?_; clear hK K
      refine Gs.rebase [1, 3, 4, 5] ?_
      simp only [go_sem]
      rw [wrap_succ j (by omega)]
      exact ih2 (j + 1) _ _ ⟨o2, ⟨by omega, by rw [putAll_succ _ _ j hltj]; exact hgr2⟩, by rw [putAll_succ _ _ j hltj], by rw [putAll_succ _ _ j hltj]⟩ (by omega)
    · have hje : j = m.edges[i].outs.length := by simp at h21; omega
      subst hje
      rw [List.take_length, ← putAll_append, ← hsu] at hgr ⊢
      refine Gs.exit rfl ?_
      refine Gs.ib ?_
      refine Gs.rg [1, 3, 4] fun K hK => ?_; simp (maxSteps:=9^7) only [go_sem]
      refine hK _ _ ?_; clear hK K
      refine Gs.rebase [1, 3, 4] ?_
      simp only [go_sem]
      rw [wrap_succ i (by omega)]
      exact ih1 (i + 1) _ _ ⟨o, ⟨by omega, hgr⟩, rfl, rfl⟩ (by omega)
  · have hie : i = m.edges.length := by simp at h10; omega
    subst hie
    have hot : outsTo m m.edges.length = m.edges.flatMap XEdge.outs := by unfold outsTo; rw [List.take_length]
    rw [hot] at hgr ⊢
    subst hσ
    have hdr := hgr.drop hb1
    refine Gs.le (ELe.refl _) hdr.2 ?_
    refine Gs.exit rfl ?_
    refine Gs.sq (Gs.rg [3] fun K hK => ?_); simp (maxSteps:=9^7) only [go_sem]
    refine hK _ _ ?_; clear hK K
    refine Gs.ret hC Tryz.func22 (by simp [go_sem]) ?_
    simp only [go_sem]
    exact ⟨o, hdr.1, rfl, rfl⟩
theorem in_callsO {ob : Option Nat} {n : Nat} (l : List ByteArray) (v : ByteArray) (σ : Store) (hx : oget 1 ob σ = some (l.map sD)) (hn : n = l.length) (hl : l.length < 2 ^ 40) :
    AC Tryz.prog 57 [.own ob 1 n, .v (.string v)] σ (fun e σ' => e = .ret (.v (.bool (inB l v))) ∧ σ' = σ) := by
  subst hn
  have := Views.own1 (rest := [.v (.string v)]) (n := l.length) hx (by simp) (fun _ _ _ => rfl)
  rw [List.take_of_length_le (by simp)] at this
  exact AC.lend this rfl ((in_calls l v [] hl).mono fun e σ' h => h)
theorem wrong13_calls (m : XMan) (σ : Store) (hl : m.edges.length < 2 ^ 20) (hs : ∀ e ∈ m.edges, e.small) :
    AC Tryz.prog 21 [m.d] σ (fun e σ' => e = .ret (.v (.int .i64 (wrongN m : Int))) ∧ σ' = σ) := by
  refine AC.still ?_ σ
  refine AC.forget (R := fun e _ => e = .ret (.v (.int .i64 (wrongN m : Int)))) ?_ fun e σ' h => ⟨[], SLe.nil _, h, rfl⟩
  have hmd : m.d = .agg [.slc (m.edges.map XEdge.d), .slc (m.defs.map sD)] := rfl
  have hll : (m.edges.map XEdge.d).length = m.edges.length := List.length_map ..
  refine AC.of_body Tryz.func21 rfl Tryz.ntmps21 (by simp) fun C hC => ?_
  rw [hmd]
  refine Gs.sq (Gs.rg [0] fun K hK => ?_); simp (maxSteps:=9^7) only [go_sem]
  intro b1
  refine hK _ _ ?_; clear hK K
  generalize hσ : [(b1, AObj.arr 2 [D.agg [.slc (m.edges.map XEdge.d), .slc (m.defs.map sD)]])] = ρ
  have g1 : sget b1 ρ = some (.arr 2 [D.agg [.slc (m.edges.map XEdge.d), .slc (m.defs.map sD)]]) := by rw [← hσ, sget_self]
  refine Gs.sq (Gs.rg [1] fun K hK => ?_); simp (maxSteps:=9^7) only [go_sem]
  refine hK _ _ ?_; clear hK K
  refine Gs.sq (Gs.sq ?_)
  refine Gs.rg [1, 3] fun K hK => ?_; simp (maxSteps:=9^7) only [go_sem]
  refine hK _ _ ?_; clear hK K
  refine Gs.bk ?_
  refine Gs.nilOwn 3 1 rfl ?_
  refine Gs.rebase [1, 3, 4] ?_
  simp only [go_sem]
  refine Gs.while (fun (i : Nat) env' σ'' => ∃ o : Option Nat, (i ≤ m.edges.length ∧ GrD o 1 ((outsTo m i).map sD) ρ ∧ (outsTo m i).Nodup) ∧ env' = [(1, .ptr b1 2 0 0), (3, .own o 1 (outsTo m i).length), (4, .v (.int .i64 (i : Int)))] ∧ σ'' = cellsOf o 1 ((outsTo m i).map sD) ++ ρ) (fun (i : Nat) => m.edges.length - i) 0 ⟨none, ⟨by omega, GrD.nil _ _, List.nodup_nil⟩, rfl, rfl⟩ ?_
  rintro i env' σ'' ⟨o, ⟨hi, hgr, hnd⟩, rfl, rfl⟩ ih
  have ih1 := ih
  refine Gs.sq (Gs.sq ?_)
  have g1o := hgr.keep g1
  refine Gs.rg [1, 3, 4] fun K hK => ?_; simp (maxSteps:=9^7) only [go_sem, g1o, hll]
  refine hK _ _ ?_; clear hK K
  refine Gs.cond rfl (fun h12 => ?_) (fun h12 => ?_)
  · have hlt : i < m.edges.length := Int.ofNat_lt.1 (by simpa using h12)
    have hg := getD_map_lt XEdge.d m.edges i hlt
    rw [XEdge.d] at hg
    have hi0 : (0 : Int) ≤ (i : Int) := by omega
    have hi1 : (i : Int) < (m.edges.length : Int) := by omega
    have hsm := (hs _ (List.getElem_mem hlt)).outs
    have hol : (m.edges[i].outs.map sD).length = m.edges[i].outs.length := List.length_map ..
    have hul := outsTo_len m hs i hi
    have hsu := outsTo_succ m i hlt
    refine Gs.sk ?_
    refine Gs.sq ?_
    refine Gs.bk ?_
    refine Gs.sq (Gs.rg [1, 3, 4] fun K hK => ?_); simp (maxSteps:=9^7) only [go_sem]
    refine hK _ _ ?_; clear hK K
    refine Gs.bk ?_
    refine Gs.rebase [1, 3, 4, 5] ?_
    simp only [go_sem]
    refine Gs.while (fun (j : Nat) env' σ'' => ∃ o : Option Nat, (j ≤ m.edges[i].outs.length ∧ GrD o 1 ((outsTo m i ++ m.edges[i].outs.take j).map sD) ρ ∧ (outsTo m i ++ m.edges[i].outs.take j).Nodup) ∧ env' = [(1, .ptr b1 2 0 0), (3, .own o 1 (outsTo m i ++ m.edges[i].outs.take j).length), (4, .v (.int .i64 (i : Int))), (5, .v (.int .i64 (j : Int)))] ∧ σ'' = cellsOf o 1 ((outsTo m i ++ m.edges[i].outs.take j).map sD) ++ ρ) (fun (j : Nat) => m.edges[i].outs.length - j) 0 ⟨o, ⟨Nat.zero_le _, by simpa using hgr, by simpa using hnd⟩, by simp, by simp⟩ ?_
    rintro j env' σ'' ⟨o, ⟨hj, hgr, hnd⟩, rfl, rfl⟩ ih
    have ih2 := ih
    refine Gs.sq (Gs.sq ?_)
    have g1o := hgr.keep g1
    refine Gs.rg [1, 3, 4, 5] fun K hK => ?_; simp (maxSteps:=9^7) only [go_sem, g1o, hll, hg, hi0, hi1, hol]
    refine hK _ _ ?_; clear hK K
    refine Gs.cond rfl (fun h23 => ?_) (fun h23 => ?_)
    · have hltj : j < m.edges[i].outs.length := Int.ofNat_lt.1 (by simpa using h23)
      have hgj := getD_map_lt sD m.edges[i].outs j hltj
      rw [sD] at hgj
      have hj0 : (0 : Int) ≤ (j : Int) := by omega
      have hj1 : (j : Int) < (m.edges[i].outs.length : Int) := by omega
      have hxl : (outsTo m i ++ m.edges[i].outs.take j).length ≤ 10 * i + 10 := by rw [List.length_append, List.length_take]; omega
      refine Gs.sk ?_
      refine Gs.sq ?_
      refine Gs.bk ?_
      refine Gs.sq (Gs.sq ?_)
      refine Gs.rg [1, 3, 4, 5] fun K hK => ?_; simp (maxSteps:=9^7) only [go_sem, g1o, hll, hg, hi0, hi1, hol, hgj, hj0, hj1]
      refine ⟨_, Tryz.call57, (in_callsO (outsTo m i ++ m.edges[i].outs.take j) m.edges[i].outs[j] _ hgr.oget rfl (by omega)).mono ?_⟩
      rintro e σ1 ⟨rfl, rfl⟩
      simp only [go_sem]
      refine hK _ _ ?_; clear hK K
      refine Gs.cond rfl (fun h36 => ?_) (fun h36 => ?_)
      · have hin := (inB_mem _ _).1 h36
        have hno : wrongN m = 11 := by
          unfold wrongN
          rw [if_neg]
          intro hall
          have hsub : (outsTo m i ++ m.edges[i].outs.take (j + 1)).Nodup := by
            refine hall.sublist ?_
            have h1 : m.edges.flatMap XEdge.outs = outsTo m i ++ (m.edges[i].outs ++ (m.edges.drop (i + 1)).flatMap XEdge.outs) := by
              unfold outsTo
              rw [← List.flatMap_cons, ← List.drop_eq_getElem_cons hlt, ← List.flatMap_append, List.take_append_drop]
            rw [h1]
            exact List.Sublist.append (List.Sublist.refl _) ((List.take_sublist _ _).trans (List.sublist_append_left _ _))
          rw [List.take_succ_eq_append_getElem hltj, ← List.append_assoc] at hsub
          exact (List.nodup_append.1 hsub).2.2 _ hin _ (List.mem_singleton.2 rfl) rfl
        refine Gs.sq (Gs.rg [] fun K hK => ?_); simp (maxSteps:=9^7) only [go_sem]
        refine hK _ _ ?_; clear hK K
        refine Gs.ret hC Tryz.func21 (by simp [go_sem]) ?_
        simp only [go_sem]
        rw [hno]; rfl
      · have hnin : m.edges[i].outs[j] ∉ outsTo m i ++ m.edges[i].outs.take j := fun hm => by
          have := (inB_mem _ _).2 hm
          rw [h36] at this; cases this
        have ho := hgr.oget
        have hd := hgr.sdel
        have hml : ((outsTo m i ++ m.edges[i].outs.take j).map sD).length = (outsTo m i ++ m.edges[i].outs.take j).length := List.length_map ..
        have htk : List.take (outsTo m i ++ m.edges[i].outs.take j).length ((outsTo m i ++ m.edges[i].outs.take j).map sD) = (outsTo m i ++ m.edges[i].outs.take j).map sD := List.take_of_length_le (by omega)
        refine Gs.sk ?_
        refine Gs.regionM [1, 3, 4, 5] [47] fun K hK => ?_; simp (maxSteps:=9^7) only [go_sem, g1o, hll, hg, hi0, hi1, hol, hgj, hj0, hj1, ho, hd, hml, htk]
        refine ⟨by decide, ⟨Nat.le_refl _, fun y hy => by rw [hy]; exact ⟨rfl, rfl⟩, by omega, by omega⟩, fun ob hz hf => ?_⟩
        have e1 : (outsTo m i ++ m.edges[i].outs.take j).map sD ++ [D.v (.string m.edges[i].outs[j])] = (outsTo m i ++ m.edges[i].outs.take (j + 1)).map sD := by
          rw [List.take_succ_eq_append_getElem hltj, ← List.append_assoc, List.map_append (l₂ := [m.edges[i].outs[j]])]; rfl
        rw [e1] at hz ⊢
        refine hK _ _ ?_; clear hK K
        refine Gs.ib ?_
        refine Gs.rg [1, 3, 4, 5] fun K hK => ?_; simp (maxSteps:=9^7) only [go_sem]
        refine hK _ _ ?_; clear hK K
        refine Gs.rebase [1, 3, 4, 5] ?_
        simp only [go_sem]
        rw [wrap_succ j (by omega)]
        refine ih2 (j + 1) _ _ ⟨ob, ⟨by omega, ⟨hf, hz⟩, ?_⟩, by rw [List.length_map], rfl⟩ (by omega)
        rw [List.take_succ_eq_append_getElem hltj, ← List.append_assoc]
        exact List.nodup_append.2 ⟨hnd, by simp, fun a ha b hb => by rw [List.mem_singleton.1 hb]; exact fun e => hnin (e ▸ ha)⟩
    · have hje : j = m.edges[i].outs.length := by
        have h : (m.edges[i].outs.length : Int) ≤ j := by simpa using h23
        omega
      subst hje
      rw [List.take_length, ← hsu] at hgr hnd ⊢
      refine Gs.exit rfl ?_
      refine Gs.ib ?_
      refine Gs.rg [1, 3, 4] fun K hK => ?_; simp (maxSteps:=9^7) only [go_sem]
      refine hK _ _ ?_; clear hK K
      refine Gs.rebase [1, 3, 4] ?_
      simp only [go_sem]
      rw [wrap_succ i (by omega)]
      exact ih1 (i + 1) _ _ ⟨o, ⟨by omega, hgr, hnd⟩, rfl, rfl⟩ (by omega)
  · have hie : i = m.edges.length := by
      have h : (m.edges.length : Int) ≤ i := by simpa using h12
      omega
    subst hie
    have hot : outsTo m m.edges.length = m.edges.flatMap XEdge.outs := by unfold outsTo; rw [List.take_length]
    rw [hot] at hnd
    have g1o := hgr.keep g1
    refine Gs.exit rfl ?_
    refine Gs.sq (Gs.rg [1] fun K hK => ?_); simp (maxSteps:=9^7) only [go_sem, g1o]
    refine ⟨_, Tryz.call58, (below_calls m _ hl hs).mono ?_⟩
    rintro e σ1 ⟨rfl, rfl⟩
    simp only [go_sem]
    refine hK _ _ ?_; clear hK K
    refine Gs.le (ELe.refl _) (SLe.nil _) ?_
    have hbl : ((List.range m.edges.length).map fun a => D.slc (rowB m.edges.length (belB m a))).length = m.edges.length := by simp
    unfold belD
    refine Gs.sq (Gs.sq ?_)
    refine Gs.rg [6] fun K hK => ?_; simp (maxSteps:=9^7) only [go_sem]
    refine hK _ _ ?_; clear hK K
    refine Gs.bk ?_
    refine Gs.rebase [6, 7] ?_
    simp only [go_sem]
    refine Gs.while (fun (k : Nat) env' σ'' => (k ≤ m.edges.length ∧ ∀ a < k, belB m a a = false) ∧ env' = [(6, .slc ((List.range m.edges.length).map fun a => D.slc (rowB m.edges.length (belB m a)))), (7, .v (.int .i64 (k : Int)))] ∧ σ'' = []) (fun (k : Nat) => m.edges.length - k) 0 ⟨⟨Nat.zero_le _, fun a h => by omega⟩, rfl, rfl⟩ ?_
    rintro k env' σ'' ⟨⟨hk, hka⟩, rfl, rfl⟩ ih
    have ih3 := ih
    refine Gs.sq (Gs.sq ?_)
    refine Gs.rg [6, 7] fun K hK => ?_; simp (maxSteps:=9^7) only [go_sem, hbl]
    refine hK _ _ ?_; clear hK K
    refine Gs.cond rfl (fun h54 => ?_) (fun h54 => ?_)
    · have hkl : k < m.edges.length := Int.ofNat_lt.1 (by simpa using h54)
      have hk0 : (0 : Int) ≤ (k : Int) := by omega
      have hk1 : (k : Int) < (m.edges.length : Int) := by omega
      have hr1 := range_getD (fun a => D.slc (rowB m.edges.length (belB m a))) .any hkl
      have hr2 := rowB_len m.edges.length (belB m k)
      have hr3 := rowB_get (belB m k) hkl
      refine Gs.sk ?_
      refine Gs.sq ?_
      refine Gs.bk ?_
      refine Gs.sq (Gs.rg [6, 7] fun K hK => ?_); simp (maxSteps:=9^7) only [go_sem, hbl, hk0, hk1, hr1, hr2, hr3]
      refine hK _ _ ?_; clear hK K
      refine Gs.cond rfl (fun h63 => ?_) (fun h63 => ?_)
      · have hcy : ((List.range m.edges.length).any fun i => belB m i i) = true := List.any_eq_true.2 ⟨k, List.mem_range.2 hkl, h63⟩
        have hno : wrongN m = 12 := by unfold wrongN; rw [if_pos hnd, if_pos hcy]
        refine Gs.sq (Gs.rg [] fun K hK => ?_); simp (maxSteps:=9^7) only [go_sem]
        refine hK _ _ ?_; clear hK K
        refine Gs.ret hC Tryz.func21 (by simp [go_sem]) ?_
        simp only [go_sem]
        rw [hno]; rfl
      · refine Gs.sk ?_
        refine Gs.ib ?_
        refine Gs.rg [6, 7] fun K hK => ?_; simp (maxSteps:=9^7) only [go_sem]
        refine hK _ _ ?_; clear hK K
        refine Gs.rebase [6, 7] ?_
        simp only [go_sem]
        rw [wrap_succ k (by omega)]
        refine ih3 (k + 1) _ _ ⟨⟨by omega, fun a ha => ?_⟩, rfl, rfl⟩ (by omega)
        by_cases hak : a = k
        · rw [hak]; exact h63
        · exact hka a (by omega)
    · have hke : k = m.edges.length := by
        have h : (m.edges.length : Int) ≤ k := by simpa using h54
        omega
      subst hke
      have hno : wrongN m = 0 := by
        unfold wrongN
        rw [if_pos hnd, if_neg]
        intro h
        obtain ⟨a, ha, hb⟩ := List.any_eq_true.1 h
        rw [hka a (List.mem_range.1 ha)] at hb
        cases hb
      refine Gs.exit rfl ?_
      refine Gs.sq (Gs.rg [] fun K hK => ?_); simp (maxSteps:=9^7) only [go_sem]
      refine hK _ _ ?_; clear hK K
      refine Gs.ret hC Tryz.func21 (by simp [go_sem]) ?_
      simp only [go_sem]
      rw [hno]; rfl
theorem aboveTo2_succ (m : XMan) (n k : Nat) : aboveTo2 m n (k + 1) = aboveTo2 m n k ++ if belB m n k = true then outsOf m k else [] := by
  unfold aboveTo2
  rw [List.range_succ, List.flatMap_append]
  simp
theorem aboveTo2_len (m : XMan) (hs : ∀ e ∈ m.edges, e.small) (n : Nat) : ∀ k, (aboveTo2 m n k).length ≤ 10 * k
  | 0 => by simp [aboveTo2]
  | k + 1 => by
    have h1 := aboveTo2_len m hs n k
    have h2 := outsOf_len m hs k
    rw [aboveTo2_succ, List.length_append]
    split
    · omega
    · simp; omega
theorem aboveR_calls (m : XMan) (n : Nat) (σ : Store) (hl : m.edges.length < 2 ^ 20) (hs : ∀ e ∈ m.edges, e.small) (hn : n < m.edges.length) :
    AC Tryz.prog 62 [m.d, .v (.int .i64 (n : Int))] σ (fun e σ' => e = .ret (.slc ((aboveR m n).map sD)) ∧ σ' = σ) := by
  refine AC.still ?_ σ
  refine AC.forget (R := fun e _ => e = .ret (.slc ((aboveR m n).map sD))) ?_ fun e σ' h => ⟨[], SLe.nil _, h, rfl⟩
  have hmd : m.d = .agg [.slc (m.edges.map XEdge.d), .slc (m.defs.map sD)] := rfl
  have hll : (m.edges.map XEdge.d).length = m.edges.length := List.length_map ..
  refine AC.of_body Tryz.func62 rfl Tryz.ntmps62 (by simp) fun C hC => ?_
  rw [hmd]
  refine Gs.sq (Gs.rg [0, 1] fun K hK => ?_); simp (maxSteps:=9^7) only [go_sem]
  intro b1
  refine hK _ _ ?_; clear hK K
  have g1 : sget b1 [(b1, AObj.arr 2 [D.agg [.slc (m.edges.map XEdge.d), .slc (m.defs.map sD)]])] = some (.arr 2 [D.agg [.slc (m.edges.map XEdge.d), .slc (m.defs.map sD)]]) := by rw [sget_self]
  have hbl : ((List.range m.edges.length).map fun a => D.slc (rowB m.edges.length (belB m a))).length = m.edges.length := by simp
  have hn0 : (0 : Int) ≤ (n : Int) := by omega
  have hn1 : (n : Int) < (m.edges.length : Int) := by omega
  have hr1 := range_getD (fun a => D.slc (rowB m.edges.length (belB m a))) .any hn
  have hr2 := rowB_len m.edges.length (belB m n)
  refine Gs.sq (Gs.rg [1, 2] fun K hK => ?_); simp (maxSteps:=9^7) only [go_sem, g1]
  refine ⟨_, Tryz.call58, (below_calls m _ hl hs).mono ?_⟩
  rintro e σ1 ⟨rfl, rfl⟩
  simp only [go_sem, belD]
  refine hK _ _ ?_; clear hK K
  refine Gs.sq (Gs.rg [1, 2, 5] fun K hK => ?_); simp (maxSteps:=9^7) only [go_sem]
  refine hK _ _ ?_; clear hK K
  refine Gs.sq (Gs.sq ?_)
  refine Gs.rg [1, 2, 5, 6] fun K hK => ?_; simp (maxSteps:=9^7) only [go_sem]
  refine hK _ _ ?_; clear hK K
  refine Gs.bk ?_
  refine Gs.nilSlc 6 rfl ?_
  refine Gs.rebase [1, 2, 5, 6, 7] ?_
  simp only [go_sem]
  refine Gs.while (fun (i : Nat) env' σ'' => (i ≤ m.edges.length) ∧ env' = [(1, .v (.int .i64 (n : Int))), (2, .ptr b1 2 0 0), (5, .slc ((List.range m.edges.length).map fun a => D.slc (rowB m.edges.length (belB m a)))), (6, .slc ((putAll [] (aboveTo2 m n i)).map sD)), (7, .v (.int .i64 (i : Int)))] ∧ σ'' = [(b1, AObj.arr 2 [D.agg [.slc (m.edges.map XEdge.d), .slc (m.defs.map sD)]])]) (fun (i : Nat) => m.edges.length - i) 0 ⟨Nat.zero_le _, rfl, rfl⟩ ?_
  rintro i env' σ'' ⟨hi, rfl, rfl⟩ ih
  have ih1 := ih
  refine Gs.sq (Gs.sq ?_)
  refine Gs.rg [1, 2, 5, 6, 7] fun K hK => ?_; simp (maxSteps:=9^7) only [go_sem, g1, hll]
  refine hK _ _ ?_; clear hK K
  refine Gs.cond rfl (fun h15 => ?_) (fun h15 => ?_)
  · have hlt : i < m.edges.length := Int.ofNat_lt.1 (by simpa using h15)
    have hg := getD_map_lt XEdge.d m.edges i hlt
    rw [XEdge.d] at hg
    have hi0 : (0 : Int) ≤ (i : Int) := by omega
    have hi1 : (i : Int) < (m.edges.length : Int) := by omega
    have hsm := (hs _ (List.getElem_mem hlt)).outs
    have hol : (m.edges[i].outs.map sD).length = m.edges[i].outs.length := List.length_map ..
    have hul := aboveTo2_len m hs n i
    have hp1 := putAll_len [] (aboveTo2 m n i)
    simp only [List.length_nil] at hp1
    have hsu := aboveTo2_succ m n i
    rw [outsOf_at m hlt] at hsu
    have hr3 := rowB_get (belB m n) hlt
    refine Gs.sk ?_
    refine Gs.sq ?_
    refine Gs.bk ?_
    refine Gs.sq (Gs.rg [1, 2, 5, 6, 7] fun K hK => ?_); simp (maxSteps:=9^7) only [go_sem]
    refine hK _ _ ?_; clear hK K
    refine Gs.bk ?_
    refine Gs.rebase [1, 2, 5, 6, 7, 8] ?_
    simp only [go_sem]
    refine Gs.while (fun (j : Nat) env' σ'' => (j ≤ m.edges[i].outs.length ∧ (belB m n i = false → j = 0)) ∧ env' = [(1, .v (.int .i64 (n : Int))), (2, .ptr b1 2 0 0), (5, .slc ((List.range m.edges.length).map fun a => D.slc (rowB m.edges.length (belB m a)))), (6, .slc ((putAll (putAll [] (aboveTo2 m n i)) (m.edges[i].outs.take j)).map sD)), (7, .v (.int .i64 (i : Int))), (8, .v (.int .i64 (j : Int)))] ∧ σ'' = [(b1, AObj.arr 2 [D.agg [.slc (m.edges.map XEdge.d), .slc (m.defs.map sD)]])]) (fun (j : Nat) => m.edges[i].outs.length - j) 0 ⟨⟨Nat.zero_le _, fun _ => rfl⟩, rfl, rfl⟩ ?_
    rintro j env' σ'' ⟨⟨hj, hb0⟩, rfl, rfl⟩ ih
    have ih2 := ih
    refine Gs.sq (Gs.sq ?_)
    rcases (show (j < m.edges[i].outs.length ∧ belB m n i = true) ∨ (j < m.edges[i].outs.length ∧ belB m n i = false) ∨ j = m.edges[i].outs.length from by cases belB m n i <;> simp <;> omega) with ⟨hltj, hbt⟩ | ⟨hltj, hbt⟩ | hje
    · have hdj : decide ((j : Int) < (m.edges[i].outs.length : Int)) = true := decide_eq_true (by omega)
      refine Gs.rg [1, 2, 5, 6, 7, 8] fun K hK => ?_; simp (maxSteps:=9^7) only [go_sem, g1, hll, hg, hi0, hi1, hol, hdj, hbl, hn0, hn1, hr1, hr2, hr3, hbt]
      refine hK _ _ ?_; clear hK K
      refine Gs.condT rfl ?_
      refine Gs.sk ?_
      refine Gs.sq ?_
      refine Gs.bk ?_
      have hgj := getD_map_lt sD m.edges[i].outs j hltj
      rw [sD] at hgj
      have hj0 : (0 : Int) ≤ (j : Int) := by omega
      have hj1 : (j : Int) < (m.edges[i].outs.length : Int) := by omega
      have hp2 := putAll_len (putAll [] (aboveTo2 m n i)) (m.edges[i].outs.take j)
      have hp3 : (m.edges[i].outs.take j).length ≤ 10 := by rw [List.length_take]; omega
      refine Gs.rg [1, 2, 5, 6, 7, 8] fun K hK => ?_; simp (maxSteps:=9^7) only [go_sem, g1, hll, hg, hi0, hi1, hol, hgj, hj0, hj1]
      refine ⟨_, Tryz.call59, (put_pub _ m.edges[i].outs[j] _ (by omega)).mono ?_⟩
      rintro e σ1 ⟨rfl, rfl⟩
      simp only [go_sem]
      refine hK _ _ ?_; clear hK K
      refine Gs.ib ?_
      refine Gs.rg [1, 2, 5, 6, 7, 8] fun K hK => ?_; simp (maxSteps:=9^7) only [go_sem]
      refine hK _ _ ?_; clear hK K
      refine Gs.rebase [1, 2, 5, 6, 7, 8] ?_
      simp only [go_sem]
      rw [wrap_succ j (by omega), ← putAll_succ _ _ j hltj]
      exact ih2 (j + 1) _ _ ⟨⟨by omega, fun h => by rw [hbt] at h; cases h⟩, rfl, rfl⟩ (by omega)
    · have hdj : decide ((j : Int) < (m.edges[i].outs.length : Int)) = true := decide_eq_true (by omega)
      have hj0 := hb0 hbt
      subst hj0
      refine Gs.rg [1, 2, 5, 6, 7, 8] fun K hK => ?_; simp (maxSteps:=9^7) only [go_sem, g1, hll, hg, hi0, hi1, hol, hdj, hbl, hn0, hn1, hr1, hr2, hr3, hbt]
      refine hK _ _ ?_; clear hK K
      refine Gs.condF rfl ?_
      refine Gs.exit rfl ?_
      refine Gs.ib ?_
      refine Gs.rg [1, 2, 5, 6, 7] fun K hK => ?_; simp (maxSteps:=9^7) only [go_sem]
      refine hK _ _ ?_; clear hK K
      refine Gs.rebase [1, 2, 5, 6, 7] ?_
      simp only [go_sem]
      rw [wrap_succ i (by omega)]
      rw [hbt, if_neg (by decide), List.append_nil] at hsu
      exact ih1 (i + 1) _ _ ⟨by omega, by rw [hsu]; rfl, rfl⟩ (by omega)
    · have hdj : decide ((j : Int) < (m.edges[i].outs.length : Int)) = false := decide_eq_false (by omega)
      refine Gs.rg [1, 2, 5, 6, 7, 8] fun K hK => ?_; simp (maxSteps:=9^7) only [go_sem, g1, hll, hg, hi0, hi1, hol, hdj]
      refine hK _ _ ?_; clear hK K
      refine Gs.condF rfl ?_
      refine Gs.exit rfl ?_
      refine Gs.ib ?_
      refine Gs.rg [1, 2, 5, 6, 7] fun K hK => ?_; simp (maxSteps:=9^7) only [go_sem]
      refine hK _ _ ?_; clear hK K
      refine Gs.rebase [1, 2, 5, 6, 7] ?_
      simp only [go_sem]
      rw [wrap_succ i (by omega)]
      have hsl : putAll (putAll [] (aboveTo2 m n i)) (m.edges[i].outs.take j) = putAll [] (aboveTo2 m n (i + 1)) := by
        rw [hje, List.take_length, hsu, putAll_append]
        cases hb : belB m n i with
        | true => rfl
        | false =>
          have : m.edges[i].outs = [] := List.length_eq_zero_iff.1 (by rw [← hje]; exact hb0 hb)
          rw [this]; rfl
      exact ih1 (i + 1) _ _ ⟨by omega, by rw [hsl], rfl⟩ (by omega)
  · have hie : i = m.edges.length := by
      have h : (m.edges.length : Int) ≤ i := by simpa using h15
      omega
    subst hie
    refine Gs.exit rfl ?_
    refine Gs.sq (Gs.rg [6] fun K hK => ?_); simp (maxSteps:=9^7) only [go_sem]
    refine hK _ _ ?_; clear hK K
    refine Gs.ret hC Tryz.func62 (by simp [go_sem]) ?_
    simp only [go_sem]
    rfl
theorem refThere_calls (m : XMan) (n : Int) (f : ByteArray) (σ : Store) (hl : m.edges.length < 2 ^ 20) (hs : ∀ e ∈ m.edges, e.small) :
    AC Tryz.prog 24 [m.d, .v (.int .i64 n), .v (.string f)] σ (fun e σ' => e = .ret (.v (.bool (thereN m n f))) ∧ σ' = σ) := by
  refine AC.still ?_ σ
  refine AC.forget (R := fun e _ => e = .ret (.v (.bool (thereN m n f)))) ?_ fun e σ' h => ⟨[], SLe.nil _, h, rfl⟩
  have hmd : m.d = .agg [.slc (m.edges.map XEdge.d), .slc (m.defs.map sD)] := rfl
  have hll : (m.edges.map XEdge.d).length = m.edges.length := List.length_map ..
  refine AC.of_body Tryz.func24 rfl Tryz.ntmps24 (by simp) fun C hC => ?_
  rw [hmd]
  refine Gs.sq (Gs.rg [0, 1, 2] fun K hK => ?_); simp (maxSteps:=9^7) only [go_sem]
  intro b1
  refine hK _ _ ?_; clear hK K
  have g1 : sget b1 [(b1, AObj.arr 2 [D.agg [.slc (m.edges.map XEdge.d), .slc (m.defs.map sD)]])] = some (.arr 2 [D.agg [.slc (m.edges.map XEdge.d), .slc (m.defs.map sD)]]) := by rw [sget_self]
  refine Gs.sq (Gs.sq ?_)
  refine Gs.rg [1, 2, 3] fun K hK => ?_; simp (maxSteps:=9^7) only [go_sem, g1]
  refine ⟨_, Tryz.call47, (maker_calls m f _ (by omega) (fun e he => by have := (hs e he).outs; omega)).mono ?_⟩
  rintro e σ1 ⟨rfl, rfl⟩
  simp only [go_sem]
  refine hK _ _ ?_; clear hK K
  refine Gs.cond rfl (fun h10 => ?_) (fun h10 => ?_)
  · have hm : makerI m f < 0 := by simpa using h10
    refine Gs.sq (Gs.rg [2] fun K hK => ?_); simp (maxSteps:=9^7) only [go_sem]
    refine ⟨_, Tryz.call19, (refOwn_calls f _).mono ?_⟩
    rintro e σ1 ⟨rfl, rfl⟩
    simp only [go_sem]
    refine hK _ _ ?_; clear hK K
    refine Gs.ret hC Tryz.func24 (by simp [go_sem]) ?_
    simp only [go_sem]
    unfold thereN; rw [if_pos hm]
  · have hm : ¬ makerI m f < 0 := by simpa using h10
    refine Gs.sk ?_
    refine Gs.sq ?_
    rcases (show n < 0 ∨ (0 ≤ n ∧ (m.edges.length : Int) ≤ n) ∨ ∃ k : Nat, n = (k : Int) ∧ k < m.edges.length from by
      by_cases h1 : n < 0
      · exact .inl h1
      · by_cases h2 : (m.edges.length : Int) ≤ n
        · exact .inr (.inl ⟨by omega, h2⟩)
        · exact .inr (.inr ⟨n.toNat, by omega, by omega⟩)) with h1 | ⟨h1, h2⟩ | ⟨k, rfl, hk⟩
    · have d1 : decide (n ≥ 0) = false := decide_eq_false (by omega)
      refine Gs.rg [1, 2, 3] fun K hK => ?_; simp (maxSteps:=9^7) only [go_sem, g1, hll, d1]
      refine hK _ _ ?_; clear hK K
      refine Gs.ret hC Tryz.func24 (by simp [go_sem]) ?_
      simp only [go_sem]
      unfold thereN; rw [if_neg hm, decide_eq_false (by omega)]; rfl
    · have d1 : decide (n ≥ 0) = true := decide_eq_true (by omega)
      have d2 : decide (n < (m.edges.length : Int)) = false := decide_eq_false (by omega)
      refine Gs.rg [1, 2, 3] fun K hK => ?_; simp (maxSteps:=9^7) only [go_sem, g1, hll, d1, d2]
      refine hK _ _ ?_; clear hK K
      refine Gs.ret hC Tryz.func24 (by simp [go_sem]) ?_
      simp only [go_sem]
      unfold thereN; rw [if_neg hm, decide_eq_false (by omega)]; rfl
    · have d1 : decide ((k : Int) ≥ 0) = true := decide_eq_true (by omega)
      have d2 : decide ((k : Int) < (m.edges.length : Int)) = true := decide_eq_true (by omega)
      have hal : (aboveR m k).length < 2 ^ 40 := by
        have h1 := putAll_len [] (aboveTo2 m k m.edges.length)
        have h2 := aboveTo2_len m hs k m.edges.length
        simp only [List.length_nil] at h1
        unfold aboveR
        omega
      refine Gs.rg [1, 2, 3] fun K hK => ?_; simp (maxSteps:=9^7) only [go_sem, g1, hll, d1, d2]
      refine ⟨_, Tryz.call62, (aboveR_calls m k _ hl hs hk).mono ?_⟩
      rintro e σ1 ⟨rfl, rfl⟩
      simp only [go_sem]
      refine ⟨_, Tryz.call57, (in_calls (aboveR m k) f _ hal).mono ?_⟩
      rintro e σ1 ⟨rfl, rfl⟩
      simp only [go_sem]
      refine hK _ _ ?_; clear hK K
      refine Gs.ret hC Tryz.func24 (by simp [go_sem]) ?_
      simp only [go_sem]
      unfold thereN; rw [if_neg hm, decide_eq_true ⟨by omega, by omega⟩, Bool.true_and, Int.toNat_natCast]; rfl
theorem above_out (g : XGr) (mb : Nat) (n : Int) (σ : Store) (hn : n < 0 ∨ (0 ≤ n ∧ (g.man.edges.length : Int) ≤ n)) :
    AC Tryz.prog 61 [g.d mb, .v (.int .i64 n)] σ (fun e σ' => e = .ret (.slc []) ∧ σ' = σ) := by
  have hgd : g.d mb = .elt [.slc (g.man.edges.map XEdge.d), .slc (g.man.defs.map sD), .map mb, .slc (g.ah.map fun l => .slc (l.map nD))] := rfl
  have hll : (g.man.edges.map XEdge.d).length = g.man.edges.length := List.length_map ..
  refine AC.ret_le (R := fun e σ' => e = .ret (.v (.slice none 0 0)) ∧ σ' = σ) ?_ fun e σ' h => .inr ⟨_, _, h.1, DLe.nil_slc, rfl, h.2⟩
  rw [hgd]
  refine AC.of_body Tryz.func61 rfl Tryz.ntmps61 (by simp) fun C hC => ?_
  refine Gs.sq (Gs.rg [0, 1] fun K hK => ?_); simp (maxSteps:=9^7) only [go_sem]
  refine hK _ _ ?_; clear hK K
  refine Gs.sq (Gs.sq ?_)
  rcases hn with h1 | ⟨h1, h2⟩
  · have d1 : decide (n < 0) = true := decide_eq_true h1
    refine Gs.rg [0, 1] fun K hK => ?_; simp (maxSteps:=9^7) only [go_sem, hll, d1]
    refine hK _ _ ?_; clear hK K
    refine Gs.condT rfl ?_
    refine Gs.sq (Gs.rg [] fun K hK => ?_); simp (maxSteps:=9^7) only [go_sem]
    refine hK _ _ ?_; clear hK K
    refine Gs.ret hC Tryz.func61 (by simp [go_sem]) ?_
    simp only [go_sem]
  · have d1 : decide (n < 0) = false := decide_eq_false (by omega)
    have d2 : decide (n ≥ (g.man.edges.length : Int)) = true := decide_eq_true h2
    refine Gs.rg [0, 1] fun K hK => ?_; simp (maxSteps:=9^7) only [go_sem, hll, d1, d2]
    refine hK _ _ ?_; clear hK K
    refine Gs.condT rfl ?_
    refine Gs.sq (Gs.rg [] fun K hK => ?_); simp (maxSteps:=9^7) only [go_sem]
    refine hK _ _ ?_; clear hK K
    refine Gs.ret hC Tryz.func61 (by simp [go_sem]) ?_
    simp only [go_sem]
theorem there_any (g : XGr) (hg : g.Ok) (hf : g.Fine) (mb : Nat) (n : Int) (f : ByteArray) (hs : f.size < 2 ^ 40) (σ : Store) (hm : sget mb σ = some (.mp (mkE g.mks))) :
    AC Tryz.prog 23 [g.d mb, .v (.int .i64 n), sD f] σ (fun e σ' => e = .ret (.v (.bool (thereN g.man n f))) ∧ σ' = σ) := by
  by_cases hin : 0 ≤ n ∧ n < (g.man.edges.length : Int)
  · obtain ⟨k, rfl⟩ : ∃ k : Nat, n = (k : Int) := ⟨n.toNat, by omega⟩
    have hk : k < g.man.edges.length := by omega
    have := there_calls g hg mb k hk f hs σ hm
    rw [there_same hf hk] at this
    exact this
  · have hno : n < 0 ∨ (0 ≤ n ∧ (g.man.edges.length : Int) ≤ n) := by omega
    have hout := above_out g mb n σ hno
    have hmk := graphMaker_calls g mb f σ hm
    have hto := there_out hf hin f
    have hgd : g.d mb = .elt (g.cells mb) := rfl
    rw [hgd] at hmk hout ⊢
    refine AC.of_body Tryz.func23 rfl Tryz.ntmps23 (by simp) fun C hC => ?_
    refine Gs.sq (Gs.rg [0, 1, 2] fun K hK => ?_); simp (maxSteps:=9^7) only [go_sem]
    refine hK _ _ ?_; clear hK K
    refine Gs.sq (Gs.sq ?_)
    refine Gs.rg [0, 1, 2] fun K hK => ?_; simp (maxSteps:=9^7) only [go_sem, sD]
    refine ⟨_, Tryz.call33, hmk.mono ?_⟩
    rintro e σ1 ⟨rfl, rfl⟩
    simp only [go_sem, sD]
    refine hK _ _ ?_; clear hK K
    refine Gs.sq (Gs.rg [0, 1, 2, 8] fun K hK => ?_); simp (maxSteps:=9^7) only [go_sem]
    refine hK _ _ ?_; clear hK K
    refine Gs.cond rfl (fun h18 => ?_) (fun h18 => ?_)
    · have hs2 : (lookL g.mks f).isSome = false := by simpa using h18
      refine Gs.sq (Gs.rg [2] fun K hK => ?_); simp (maxSteps:=9^7) only [go_sem]
      refine ⟨_, Tryz.call18, (own_calls f _ hs).mono ?_⟩
      rintro e σ1 ⟨rfl, rfl⟩
      simp only [go_sem]
      refine hK _ _ ?_; clear hK K
      refine Gs.ret hC Tryz.func23 (by simp [go_sem]) ?_
      simp only [go_sem]
      rw [← hto, hs2]; rfl
    · have hs2 : (lookL g.mks f).isSome = true := by simpa using h18
      refine Gs.sk ?_
      refine Gs.sq (Gs.rg [0, 1, 2] fun K hK => ?_); simp (maxSteps:=9^7) only [go_sem]
      refine ⟨_, Tryz.call61, hout.mono ?_⟩
      rintro e σ1 ⟨rfl, rfl⟩
      simp only [go_sem]
      refine ⟨_, Tryz.call60, (search_calls [] f _ (by decide) .nil).mono ?_⟩
      rintro e σ2 ⟨⟨ix, rfl⟩, rfl⟩
      simp only [go_sem]
      refine hK _ _ ?_; clear hK K
      refine Gs.sq (Gs.rg [10] fun K hK => ?_); simp (maxSteps:=9^7) only [go_sem]
      refine hK _ _ ?_; clear hK K
      refine Gs.ret hC Tryz.func23 (by simp [go_sem]) ?_
      simp only [go_sem]
      rw [← hto, hs2]; rfl
end Go.Ab.S16
