/- A part of a proof about the given program: the abstract machine, what functions compute, laid in few texts. -/
import Derived.Test.YticjnnmnjfpopaaGreatDoorKTh
import Derived.Lib.SlBytesConst
import Derived.Test.YticjnnmnjfpopaaGreatDoorTie
import Derived.Test.YticjnnmnjfpopaaGreatDoorCards
import Derived.ProofKit
import Derived.LaidMore
import Derived.OpenShut
import Derived.Lay
import Derived.SevenTiedAt
import Derived.Stop.Joined
import Derived.Lib.LaidU8
set_option linter.unusedSimpArgs false
set_option linter.unusedVariables false
set_option linter.constructorNameAsVariable false
namespace Go.Ab.S16
open Go Go.Proofs Go.RowKit
section
variable {P : Program} {N : Slots} {C : Ctx P N} {todo : List Item} {env : Env}
theorem pubSlot2 (k : Nat) {o : Option Nat} {sz : Nat} {xs : List D} {ρ : Store} (hk : eget k env = .own o sz xs.length) (hg : GrD o sz xs ρ) (hρ : ∀ c, o = some c → PubOK c ρ) (he : ∀ c, o = some c → ∀ p ∈ env, p.1 ≠ k → D.pub c sz xs p.2 = p.2)
    (h : Gs C todo (eput k (.slc xs) env) ρ) : Gs C todo env (cellsOf o sz xs ++ ρ) := by
  cases o with
  | none =>
    have hx := hg.zero rfl
    subst hx
    refine Gs.env_le h fun j => ?_
    rw [eget_eput]
    split
    · rename_i hj; rw [hj, hk]; exact DLe.own_slc _ _
    · exact DLe.refl _
  | some c =>
    refine Gs.publish c (sget_self c _ _) ?_
    have e1 : spub c sz xs ((c, AObj.arr sz xs) :: ρ) = ρ := by
      simp only [spub, if_true]; exact hρ c rfl sz xs
    change Gs C todo (epub c sz xs env) (spub c sz xs ((c, AObj.arr sz xs) :: ρ))
    rw [e1]
    refine Gs.env_le h fun j => ?_
    rw [eget_epub, eget_eput]
    split
    · rename_i hj
      rw [hj, hk]
      show DLe (if c = c ∧ sz = sz ∧ xs.length ≤ xs.length then D.slc (xs.take xs.length) else _) _
      rw [if_pos ⟨rfl, rfl, Nat.le_refl _⟩, List.take_length]
      exact DLe.refl _
    · rename_i hj
      have : ∀ env : Env, (∀ p ∈ env, p.1 ≠ k → D.pub c sz xs p.2 = p.2) → D.pub c sz xs (eget j env) = eget j env := by
        intro env
        induction env with
        | nil => intro _; rfl
        | cons p r ih =>
          obtain ⟨i, d⟩ := p
          intro hp
          show D.pub c sz xs (if j = i then d else eget j r) = if j = i then d else eget j r
          by_cases hji : j = i
          · rw [if_pos hji]; exact hp (i, d) (by simp) (fun e => hj (hji.trans e))
          · rw [if_neg hji]; exact ih fun p hp' => hp p (by simp [hp'])
      rw [this env (he c rfl)]
      exact DLe.refl _
end
structure EdgeOk (e : XEdge) : Prop where
  small : e.small
  cmd : CmdOk e.cmd
  outs : ∀ f ∈ e.outs, f.size < 2 ^ 40
  needs : ∀ f ∈ e.needs, f.size < 2 ^ 40
structure EvOk (m : XMan) (l : List XFile) (ts : List ByteArray) : Prop where
  edges : m.edges.length ≤ 60
  edge : ∀ e ∈ m.edges, EdgeOk e
  defs : m.defs.length < 2 ^ 20
  files : l.length ≤ 400
  file : ∀ f ∈ l, f.b.length < 2 ^ 20 ∧ f.name.size < 2 ^ 40
  ts : ts.length < 2 ^ 20
theorem newG_pos {m : XMan} {c : Nat} (h : newG m = .inl c) : c ≠ 0 := by
  unfold newG at h
  split at h
  · cases h; decide
  · dsimp only at h
    split at h
    · cases h; decide
    · cases h
theorem planL_pos {g : XGr} {ts : List ByteArray} {c : Nat} (h : planL g ts = .inl c) : c ≠ 0 := by
  unfold planL at h
  split at h
  · cases h; decide
  · cases h
theorem kept_sub {α : Type} (p : α → Bool) (l : List α) : ∀ x ∈ kept p l, x ∈ l := fun x hx => (List.mem_filter.1 hx).1
def eS (b3 b4 b8 mb : Nat) (m : XMan) (g : XGr) (l : List XFile) : Store := [(b8, .arr 1 [g.d mb]), (mb, .mp (mkE g.mks)), (b4, .arr 1 [.slc (l.map XFile.d)]), (b3, .arr 2 [m.d])]
structure EN (b3 b4 b8 mb : Nat) : Prop where
  h8m : b8 ≠ mb
  h84 : b8 ≠ b4
  h83 : b8 ≠ b3
  hm4 : mb ≠ b4
  hm3 : mb ≠ b3
  h43 : b4 ≠ b3
section
variable {b3 b4 b8 mb : Nat} {m : XMan} {g : XGr} {l : List XFile}
theorem eS_8 : sget b8 (eS b3 b4 b8 mb m g l) = some (.arr 1 [g.d mb]) := sget_self ..
theorem eS_m (h : EN b3 b4 b8 mb) : sget mb (eS b3 b4 b8 mb m g l) = some (.mp (mkE g.mks)) := by
  unfold eS
  rw [sget_cons, if_neg (Ne.symm h.h8m), sget_self]
theorem eS_4 (h : EN b3 b4 b8 mb) : sget b4 (eS b3 b4 b8 mb m g l) = some (.arr 1 [.slc (l.map XFile.d)]) := by
  unfold eS
  rw [sget_cons, if_neg (Ne.symm h.h84), sget_cons, if_neg (Ne.symm h.hm4), sget_self]
end
theorem cookM_outs {cmd : ByteArray} {decl : List ByteArray} {files : List XFile} {x : XDish} (hcmd : CmdOk cmd) (h : cookM cmd decl files = some x) : x.outs.length < 2 ^ 20 := by
  unfold cookM at h
  split at h
  · cases h
  · rename_i y hy
    unfold cookR at h
    split at h
    · cases h
    · split at h
      · cases h
        rw [List.length_map]
        exact (hcmd.args y hy).2.2
      · cases h
theorem cookM_files {cmd : ByteArray} {decl : List ByteArray} {files : List XFile} {x : XDish} (h : cookM cmd decl files = some x) : ∀ f ∈ x.outs, f.b.length < 2 ^ 20 ∧ f.name.size < 2 ^ 40 := by
  unfold cookM at h
  split at h
  · cases h
  · rename_i y hy
    unfold cookR at h
    split at h
    · cases h
    · split at h
      · rename_i hle
        cases h
        intro f hf
        obtain ⟨n, hn, rfl⟩ := List.mem_map.1 hf
        have hr := right_len ((shapeM_spec hy).2.1 n hn)
        have hs : (bL n).length = n.size := by show n.data.toList.length = _; simp
        exact ⟨Nat.lt_of_le_of_lt hle (by decide), by show n.size < _; omega⟩
      · cases h
theorem fit_len {outs : List ByteArray} {fs : List XFile} (h : fitB outs fs = true) : fs.length = outs.length := by
  unfold fitB namesB at h
  simp at h
  omega
theorem sources_size {g : XGr} (hg : g.Ok) (hn : ∀ e ∈ g.man.edges, ∀ f ∈ e.needs, f.size < 2 ^ 40) : ∀ f ∈ sourcesL g, f.size < 2 ^ 40 := fun f hf => by
  have h1 : f ∈ usedL g.man := kept_sub _ _ f hf
  unfold usedL compactB at h1
  obtain ⟨b, hb, rfl⟩ := List.mem_map.1 h1
  have h2 := (compact_sub ((sortB (g.man.edges.flatMap XEdge.needs)).map bL)).subset hb
  obtain ⟨s, hs, rfl⟩ := List.mem_map.1 h2
  rw [sortB_mem] at hs
  obtain ⟨e, he, hs2⟩ := List.mem_flatMap.1 hs
  rw [lB_bL]
  exact hn e he s hs2
theorem targetsOr_len {g : XGr} (hg : g.Ok) {ts : List ByteArray} (ht : ts.length < 2 ^ 30) : (targetsOr g ts).length < 2 ^ 30 := by
  unfold targetsOr
  split
  · unfold targetsL
    split
    · have := hg.dl; omega
    · have h1 : (kept (fun f => (usedL g.man).contains f) (g.man.edges.flatMap XEdge.outs)).length ≤ (g.man.edges.flatMap XEdge.outs).length := kept_len ..
      have h2 := flatMap_length_le XEdge.outs 10 g.man.edges (fun e he => (hg.sm e he).outs)
      have := hg.el
      omega
  · exact ht
set_option maxHeartbeats 8000000 in
theorem eval_own (m : XMan) (l : List XFile) (ts : List ByteArray) (hev : EvOk m l ts) :
    AC Tryz.prog 12 [m.d, .slc (l.map XFile.d), .slc (ts.map sD)] [] (fun e σ' => match evalM m l ts with
      | .inl c => e = .ret (.tup [.v (.slice none 0 0), eD c])
      | .inr fs => ∃ o, GrD o 2 (fs.map XFile.d) [] ∧ e = .ret (.tup [.own o 2 fs.length, eD 0]) ∧ SLe (cellsOf o 2 (fs.map XFile.d)) σ') := by
  have hsm : ∀ e ∈ m.edges, e.small := fun e he => (hev.edge e he).small
  have hel := hev.edges
  have hfl := hev.files
  have htl := hev.ts
  have hnew := fun σ => new_calls m (by omega) hsm hev.defs σ
  have hb40 : ∀ f ∈ l, f.b.length < 2 ^ 40 := fun f hf => Nat.lt_trans (hev.file f hf).1 (by decide)
  have hn40 : ∀ f ∈ l, f.name.size < 2 ^ 40 := fun f hf => (hev.file f hf).2
  unfold XMan.d at hnew ⊢
  refine AC.of_body Tryz.func12 rfl Tryz.ntmps12 (by simp) fun C hC => ?_
  refine Gs.sq (Gs.rg [0, 1, 2] fun K hK => ?_); simp (maxSteps:=9^7) only [go_sem]
  intro b3 b4 hb4
  have h43 : b4 ≠ b3 := fun e => by rw [e] at hb4; simp at hb4
  have g3 : sget b3 [(b4, .arr 1 [.slc (l.map XFile.d)]), (b3, .arr 2 [.agg [.slc (m.edges.map XEdge.d), .slc (m.defs.map sD)]])] = some (.arr 2 [.agg [.slc (m.edges.map XEdge.d), .slc (m.defs.map sD)]]) := by rw [sget_cons, if_neg (Ne.symm h43), sget_self]
  refine hK _ _ ?_; clear hK K
  refine Gs.sq ?_
  rcases hg : newG m with c | g
  · rw [hg] at hnew
    refine Gs.rg [2, 3, 4] fun K hK => ?_; simp (maxSteps:=9^7) only [go_sem, g3]
    refine ⟨_, Tryz.call20, (hnew _).mono ?_⟩
    rintro e σ1 ⟨rfl, rfl⟩
    simp only [go_sem]
    intro b8 hb8
    refine hK _ _ ?_; clear hK K
    have hcn : ((c : Int) != 0) = true := by
      have := newG_pos hg
      rw [bne_iff_ne]; omega
    have he : evalM m l ts = .inl c := by unfold evalM; rw [hg]
    refine Gs.sq (Gs.sq ?_)
    refine Gs.rg [2, 4, 8, 9] fun K hK => ?_; simp (maxSteps:=9^7) only [go_sem, hcn]
    refine hK _ _ ?_; clear hK K
    refine Gs.condT rfl ?_
    refine Gs.sq (Gs.rg [9] fun K hK => ?_); simp (maxSteps:=9^7) only [go_sem]
    refine hK _ _ ?_; clear hK K
    refine Gs.ret hC Tryz.func12 (by simp [go_sem]) ?_
    simp only [go_sem]
    rw [he]; rfl
  · rw [hg] at hnew
    refine Gs.rg [2, 3, 4] fun K hK => ?_; simp (maxSteps:=9^7) only [go_sem, g3]
    refine ⟨_, Tryz.call20, (hnew _).mono ?_⟩
    rintro e σ1 ⟨mb, hmb, rfl, rfl⟩
    simp only [go_sem]
    intro b8 hb8
    refine ⟨⟨rfl, rfl⟩, ?_⟩
    refine hK _ _ ?_; clear hK K
    have hne : ∀ {b c : Nat} {x : AObj} {τ : Store}, sget b ((c, x) :: τ) = none → b ≠ c ∧ sget b τ = none := fun {b c x τ} h => by
      rw [sget_cons] at h
      split at h
      · cases h
      · rename_i e; exact ⟨e, h⟩
    have hEN : EN b3 b4 b8 mb := ⟨(hne hb8).1, (hne (hne hb8).2).1, (hne (hne (hne hb8).2).2).1, (hne hmb).1, (hne (hne hmb).2).1, h43⟩
    obtain ⟨hgok, hgm⟩ := newG_ok (by omega) hsm hev.defs (fun e he => (hev.edge e he).outs) hg
    have hem : evalM m l ts = evalG g l ts := by unfold evalM; rw [hg]
    rw [hem] at hC
    change Gs C _ _ (eS b3 b4 b8 mb m g l)
    have g8 := eS_8 (b3 := b3) (b4 := b4) (b8 := b8) (mb := mb) (m := m) (g := g) (l := l)
    have gm := eS_m (m := m) (g := g) (l := l) hEN
    have g4 := eS_4 (m := m) (g := g) (l := l) hEN
    have hgdl : (g.d mb).cells.length = 1 := rfl
    have hgdp : (g.d mb).plain = true := rfl
    have hgdh : (g.d mb).cells.headD .any = g.d mb := rfl
    refine Gs.sq (Gs.sq ?_)
    refine Gs.rg [2, 4, 8, 9] fun K hK => ?_; simp (maxSteps:=9^7) only [go_sem]
    refine hK _ _ ?_; clear hK K
    refine Gs.condF rfl ?_
    refine Gs.sk ?_
    refine Gs.sq (Gs.sq ?_)
    rcases hw : wrongB g with _ | _
    · refine Gs.rg [2, 4, 8] fun K hK => ?_; simp (maxSteps:=9^7) only [go_sem, g8, hgdl, hgdh]
      refine ⟨_, Tryz.call25, (wrong_calls g hgok mb _ gm (sources_size hgok fun e he => (hev.edge e (by rw [← hgm]; exact he)).needs)).mono ?_⟩
      rintro e σ1 ⟨rfl, rfl⟩
      simp only [go_sem, hw]
      refine hK _ _ ?_; clear hK K
      refine Gs.condF rfl ?_
      refine Gs.sk ?_
      refine Gs.sq (Gs.sq ?_)
      have hll : (ts.map sD).length = ts.length := List.length_map ..
      refine Gs.rg [2, 4, 8] fun K hK => ?_; simp (maxSteps:=9^7) only [go_sem, hll]
      refine hK _ _ ?_; clear hK K
      refine Gs.join (fun env' σ' => env' = [(2, .slc ((targetsOr g ts).map sD)), (4, .ptr b4 1 0 0), (8, .ptr b8 1 0 0)] ∧ σ' = eS b3 b4 b8 mb m g l) (fun k1 hk1 => ?_) ?_
      · refine Gs.cond rfl (fun h33 => ?_) (fun h33 => ?_)
        · have hz : ts.length = 0 := by
            have := h33
            simp at this; rw [this]; rfl
          refine Gs.rg [4, 8] fun K hK => ?_; simp (maxSteps:=9^7) only [go_sem, g8, hgdl, hgdh]
          refine ⟨_, Tryz.call30, (targets_calls g mb _ (by rw [hgm]; omega) (by rw [hgm]; exact hsm) (by rw [hgm]; exact hev.defs)).mono ?_⟩
          rintro e σ1 ⟨rfl, rfl⟩
          simp only [go_sem]
          refine hK _ _ ?_; clear hK K
          refine Gs.rebase [2, 4, 8] ?_
          simp only [go_sem]
          refine hk1 _ _ ⟨?_, rfl⟩
          unfold targetsOr
          rw [if_pos hz]
        · have hz : ¬ ts.length = 0 := by
            have := h33
            simp at this; intro h; exact this (List.length_eq_zero_iff.1 h)
          refine Gs.sk ?_
          refine Gs.rebase [2, 4, 8] ?_
          simp only [go_sem]
          refine hk1 _ _ ⟨?_, rfl⟩
          unfold targetsOr
          rw [if_neg hz]
      rintro env' σ' ⟨rfl, rfl⟩
      refine Gs.sq ?_
      rcases hp : planL g (targetsOr g ts) with c | plan
      · have htg : (targetsOr g ts).length < 2 ^ 30 := targetsOr_len hgok (by omega)
        refine Gs.rg [2, 4, 8] fun K hK => ?_; simp (maxSteps:=9^7) only [go_sem, g8, hgdl, hgdh]
        refine ⟨_, Tryz.call31, (plan_calls g hgok mb (targetsOr g ts) _ gm htg).mono ?_⟩
        rintro e σ1 ⟨rfl, rfl⟩
        simp only [go_sem, hp, planD]
        refine hK _ _ ?_; clear hK K
        refine Gs.sq (Gs.sq ?_)
        have hcn : ((c : Int) != 0) = true := by
          have := planL_pos hp
          rw [bne_iff_ne]; omega
        have he : evalG g l ts = .inl c := by unfold evalG; rw [hw]; simp only [Bool.false_eq_true, if_false, hp]
        refine Gs.rg [2, 4, 8, 9, 10] fun K hK => ?_; simp (maxSteps:=9^7) only [go_sem, hcn]
        refine hK _ _ ?_; clear hK K
        refine Gs.condT rfl ?_
        refine Gs.sq (Gs.rg [9] fun K hK => ?_); simp (maxSteps:=9^7) only [go_sem]
        refine hK _ _ ?_; clear hK K
        refine Gs.ret hC Tryz.func12 (by simp [go_sem]) ?_
        simp only [go_sem]
        rw [he]; rfl
      · have htg : (targetsOr g ts).length < 2 ^ 30 := targetsOr_len hgok (by omega)
        refine Gs.rg [2, 4, 8] fun K hK => ?_; simp (maxSteps:=9^7) only [go_sem, g8, hgdl, hgdh]
        refine ⟨_, Tryz.call31, (plan_calls g hgok mb (targetsOr g ts) _ gm htg).mono ?_⟩
        rintro e σ1 ⟨rfl, rfl⟩
        simp only [go_sem, hp, planD]
        refine hK _ _ ?_; clear hK K
        refine Gs.sq (Gs.sq ?_)
        refine Gs.rg [2, 4, 8, 9, 10] fun K hK => ?_; simp (maxSteps:=9^7) only [go_sem]
        refine hK _ _ ?_; clear hK K
        refine Gs.condF rfl ?_
        refine Gs.sk ?_
        refine Gs.sq (Gs.rg [2, 4, 8, 10] fun K hK => ?_); simp (maxSteps:=9^7) only [go_sem]
        refine hK _ _ ?_; clear hK K
        refine Gs.sq (Gs.sq ?_)
        rcases hmt : (targetsOr g ts).any (missB g l) with _ | _
        · refine Gs.rg [2, 4, 8, 10, 11] fun K hK => ?_; simp (maxSteps:=9^7) only [go_sem]
          refine ⟨_, Tryz.call34, (containsFunc_str (targetsOr g ts) _ [.ptr b8 1 0 0, .ptr b4 1 0 0] (missB g l) _ (by omega) (eval1_tests g mb b8 b4 l _ _ gm g8 g4 (by omega) hb40)).mono ?_⟩
          rintro e σ1 ⟨rfl, rfl⟩
          simp only [go_sem, hmt]
          refine hK _ _ ?_; clear hK K
          refine Gs.condF rfl ?_
          refine Gs.sk ?_
          refine Gs.sq (Gs.rg [4, 8, 10, 11] fun K hK => ?_); simp (maxSteps:=9^7) only [go_sem]
          refine hK _ _ ?_; clear hK K
          refine Gs.sq (Gs.sq ?_)
          refine Gs.nilOwn 12 2 rfl ?_
          simp only [go_sem]
          have hev2 : evalG g l ts = evalGo g l plan [] := by unfold evalG; rw [hw]; simp only [Bool.false_eq_true, if_false, hp, hmt]
          rw [hev2] at hC
          obtain ⟨hpl, hpb⟩ := planL_ok hgok hp
          rw [hgm] at hpl hpb
          have hpll : (plan.map nD).length = plan.length := List.length_map ..
          refine Gs.rg [4, 8, 10, 11, 12] fun K hK => ?_; simp (maxSteps:=9^7) only [go_sem, hpll]
          refine hK _ _ ?_; clear hK K
          refine Gs.bk ?_
          refine Gs.rebase [4, 8, 11, 12, 49, 50, 51] ?_
          simp only [go_sem]
          refine Gs.while (fun (i : Nat) env' σ'' => ∃ om : Option Nat, ∃ made : List XFile, (i ≤ plan.length ∧ evalGo g l (plan.drop i) made = evalGo g l plan [] ∧ made.length ≤ 10 * i ∧ (∀ f ∈ made, f.b.length < 2 ^ 20 ∧ f.name.size < 2 ^ 40) ∧ GrD om 2 (made.map XFile.d) (eS b3 b4 b8 mb m g l)) ∧ env' = [(4, .ptr b4 1 0 0), (8, .ptr b8 1 0 0), (11, .clo (.func 32) [] [.ptr b8 1 0 0, .ptr b4 1 0 0]), (12, .own om 2 made.length), (49, .slc (plan.map nD)), (50, .v (.int .i64 (plan.length : Int))), (51, .v (.int .i64 (i : Int)))] ∧ σ'' = cellsOf om 2 (made.map XFile.d) ++ eS b3 b4 b8 mb m g l) (fun (i : Nat) => plan.length - i) 0 ⟨none, [], ⟨Nat.zero_le _, rfl, Nat.le_refl _, fun f hf => (by cases hf), GrD.nil _ _⟩, rfl, rfl⟩ ?_
          rintro i env' σ'' ⟨om, made, ⟨hi, hgo, hml, hmd, hgr⟩, rfl, rfl⟩ ih
          have ih1 := ih
          refine Gs.sq (Gs.rg [4, 8, 11, 12, 49, 50, 51] fun K hK => ?_); simp (maxSteps:=9^7) only [go_sem]
          refine hK _ _ ?_; clear hK K
          refine Gs.sq ?_
          refine Gs.cond rfl (fun h52 => ?_) (fun h52 => ?_)
          · have hlt : i < plan.length := by simpa using h52
            have hpg := getD_map_lt nD plan i hlt
            rw [nD] at hpg
            have hi0 : (0 : Int) ≤ (i : Int) := by omega
            have hi1 : (i : Int) < (plan.length : Int) := by omega
            have hnb := hpb _ (List.getElem_mem hlt)
            obtain ⟨n, hn⟩ : ∃ n, plan[i] = n := ⟨_, rfl⟩
            rw [hn] at hpg hnb
            have hdr : plan.drop i = n :: plan.drop (i + 1) := by rw [List.drop_eq_getElem_cons hlt, hn]
            rw [hdr] at hgo
            have hnb2 : n < g.man.edges.length := by rw [hgm]; exact hnb
            have hE : g.man.edges[n] = edgeOf g n := by unfold edgeOf; rw [List.getD_eq_getElem?_getD, List.getElem?_eq_getElem hnb2]; rfl
            obtain ⟨E, hEe⟩ : ∃ E, edgeOf g n = E := ⟨_, rfl⟩
            rw [hEe] at hE
            have hEok : EdgeOk E := hev.edge E (by rw [← hgm, ← hE]; exact List.getElem_mem _)
            refine Gs.sk ?_
            refine Gs.sq ?_
            refine Gs.bk ?_
            refine Gs.sq (Gs.rg [4, 8, 11, 12, 49, 50, 51] fun K hK => ?_); simp (maxSteps:=9^7) only [go_sem, hpll, hpg, hi0, hi1]
            intro b14 hb14
            refine hK _ _ ?_; clear hK K
            obtain ⟨hgr1, hle1⟩ := hgr.push (x := .arr 1 [nD n]) hb14
            have hb14e := (hgr.none_of hb14).1
            refine Gs.le (ELe.refl _) hle1 ?_
            have hk1 : ∀ {b : Nat} {o : AObj}, sget b (eS b3 b4 b8 mb m g l) = some o → sget b ((b14, .arr 1 [nD n]) :: eS b3 b4 b8 mb m g l) = some o := fun {b o} h => by
              rw [sget_cons, if_neg (fun e => by rw [e, hb14e] at h; cases h)]; exact h
            have g8a := hgr1.keep (hk1 g8)
            have g14a := hgr1.keep (sget_self b14 (.arr 1 [nD n]) (eS b3 b4 b8 mb m g l))
            refine Gs.sq (Gs.rg [4, 8, 11, 12, 14, 49, 50, 51] fun K hK => ?_); simp (maxSteps:=9^7) only [go_sem, g8a, g14a, hgdl, hgdh]
            refine ⟨_, Tryz.call35, (edge_calls g mb n _ hnb2 (by rw [hgm]; omega) (by rw [hgm]; exact hsm)).mono ?_⟩
            rintro e σ1 ⟨rfl, rfl⟩
            simp only [go_sem, hE, XEdge.d]
            intro b15 hb15
            refine hK _ _ ?_; clear hK K
            obtain ⟨hgr2, hle2⟩ := hgr1.push (x := .arr 6 [E.d]) hb15
            have hb15e := (hgr1.none_of hb15).1
            refine Gs.le (ELe.refl _) hle2 ?_
            have hk2 : ∀ {b : Nat} {o : AObj}, sget b ((b14, .arr 1 [nD n]) :: eS b3 b4 b8 mb m g l) = some o → sget b ((b15, .arr 6 [E.d]) :: (b14, .arr 1 [nD n]) :: eS b3 b4 b8 mb m g l) = some o := fun {b o} h => by
              rw [sget_cons, if_neg (fun e => by rw [e, hb15e] at h; cases h)]; exact h
            have g8b := hgr2.keep (hk2 (hk1 g8))
            have g4b := hgr2.keep (hk2 (hk1 g4))
            have gmb := hgr2.keep (hk2 (hk1 gm))
            have g14b := hgr2.keep (hk2 (sget_self b14 (.arr 1 [nD n]) (eS b3 b4 b8 mb m g l)))
            have g15b := hgr2.keep (sget_self b15 (.arr 6 [E.d]) ((b14, .arr 1 [nD n]) :: eS b3 b4 b8 mb m g l))
            have g15c := g15b.trans (congrArg (fun x => some (AObj.arr 6 [x])) (show E.d = .agg [.slc (E.outs.map sD), .slc (E.ins.map sD), .slc (E.impl.map sD), .slc (E.order.map sD), .v (.string E.cmd), .v (.string E.dep)] from rfl))
            have hsmE := hEok.small
            have hcc := fun σ => concat_str_slc [E.ins, E.impl, E.order] σ (by simp) (fun x hx => by
              have h1 := hsmE.ins; have h2 := hsmE.impl; have h3 := hsmE.order
              simp only [List.mem_cons, List.not_mem_nil, or_false] at hx
              rcases hx with rfl | rfl | rfl <;> omega)
            have hfl3 : [E.ins, E.impl, E.order].flatten = E.needs := by unfold XEdge.needs; simp
            rw [hfl3] at hcc
            have hnl := needs_len E hsmE
            refine Gs.sq (Gs.sq ?_)
            rcases hmn : E.needs.any (missB g l) with _ | _
            · refine Gs.regionM [4, 8, 11, 12, 14, 15, 49, 50, 51] [64] fun K hK => ?_; simp (maxSteps:=9^7) only [go_sem, g15c]
              refine ⟨by decide, ?_⟩
              refine ⟨_, Tryz.call36, (hcc _).mono ?_⟩
              rintro e σ1 ⟨rfl, rfl⟩
              simp only [go_sem]
              refine ⟨_, Tryz.call34, (containsFunc_str E.needs _ [.ptr b8 1 0 0, .ptr b4 1 0 0] (missB g l) _ (by omega) (eval1_tests g mb b8 b4 l _ _ gmb g8b g4b (by omega) hb40)).mono ?_⟩
              rintro e σ1 ⟨rfl, rfl⟩
              simp only [go_sem, hmn]
              refine hK _ _ ?_; clear hK K
              refine Gs.condF rfl ?_
              refine Gs.sk ?_
              refine Gs.sq (Gs.rg [4, 8, 11, 12, 14, 15, 49, 50, 51] fun K hK => ?_); simp (maxSteps:=9^7) only [go_sem]
              refine hK _ _ ?_; clear hK K
              refine Gs.sq ?_
              obtain ⟨A, hA⟩ : ∃ A, kept (ownMadeB g) l = A := ⟨_, rfl⟩
              have hlm : (l.map XFile.d).length = l.length := List.length_map ..
              refine Gs.rg [4, 8, 11, 12, 15, 16, 49, 50, 51] fun K hK => ?_; simp (maxSteps:=9^7) only [go_sem, g4b]
              refine ⟨_, Tryz.call39, (clone_fileO (l.map XFile.d) _ (plain_file l) (by omega)).mono ?_⟩
              rintro e σ1 ⟨oc, hgc, rfl, rfl⟩
              simp only [go_sem, hlm]
              refine ⟨_, Tryz.call38, (deleteFunc_fileG oc l 40 [.ptr b8 1 0 0] (ownMadeB g) _ (by omega) hgc (fun τ hle => eval3_tests g mb b8 l τ (hle _ _ gmb) (hle _ _ g8b) hn40)).mono ?_⟩
              rintro e σ2 ⟨rfl, rfl, hgc2⟩
              simp only [go_sem]
              refine hK _ _ ?_; clear hK K
              rw [hA] at hgc2 ⊢
              have hAl : A.length ≤ l.length := by rw [← hA]; exact kept_len ..
              have hAs : ∀ f ∈ A, f ∈ l := by rw [← hA]; exact kept_sub _ _
              refine Gs.sq ?_
              refine Gs.regionM [4, 8, 11, 12, 15, 16, 17, 49, 50, 51] [75] fun K hK => ?_; simp (maxSteps:=9^7) only [go_sem]
              refine ⟨by decide, ?_⟩
              refine ⟨_, Tryz.call41, (concat2_file oc om A made _ hgc2.oget (oget_grd hgc2 hgr2.oget) (by omega) (by omega)).mono ?_⟩
              rintro e σ3 ⟨o3, hg3, rfl, rfl⟩
              simp only [go_sem]
              refine ⟨_, Tryz.call38, (deleteFunc_fileG o3 (A ++ made) 37 [.ptr b8 1 0 0, .ptr b14 1 0 0] (farB g n) _ (by rw [List.length_append]; omega) hg3 (fun τ hle => eval2_tests g hgok mb b8 b14 n hnb2 (A ++ made) τ (hle _ _ (hgc2.keep gmb)) (hle _ _ (hgc2.keep g8b)) (hle _ _ (hgc2.keep g14b)) (fun f hf => by
                rcases List.mem_append.1 hf with hf | hf
                · exact hn40 f (hAs f hf)
                · exact (hmd f hf).2))).mono ?_⟩
              rintro e σ4 ⟨rfl, rfl, hg4⟩
              simp only [go_sem]
              refine hK _ _ ?_; clear hK K
              have hF : kept (farB g n) (A ++ made) = filesFor g l made n := by unfold filesFor; rw [hA]
              rw [hF] at hg4 ⊢
              obtain ⟨F, hFe⟩ : ∃ F, filesFor g l made n = F := ⟨_, rfl⟩
              rw [hFe] at hg4 ⊢
              have happ : ∀ {c : Nat} {A B : Store}, sget c (A ++ B) = none → sget c A = none ∧ sget c B = none := fun {c A B} h => by
                rw [sget_append] at h
                split at h
                · cases h
                · exact ⟨by assumption, h⟩
              have hgF : GrD o3 2 (F.map XFile.d) (cellsOf om 2 (made.map XFile.d) ++ ((b15, .arr 6 [E.d]) :: (b14, .arr 1 [nD n]) :: eS b3 b4 b8 mb m g l)) := grd_base hg4 fun b hb => (happ hb).2
              refine Gs.le (ELe.refl _) (SLe.append (SLe.append_left _ _) (hgc2.sle.trans hg4.sle)) ?_
              refine Gs.rebase [4, 8, 11, 12, 15, 18, 49, 50, 51] ?_
              simp only [go_sem]
              have hFl : F.length = (F.map XFile.d).length := (List.length_map ..).symm
              rw [hFl]
              refine pubSlot2 18 rfl hgF (fun c hc => ?_) (fun c hc p hp hk => ?_) ?_
              · have h0 := hgF.fresh c hc
                have hmc : om ≠ some c := own_ne (SLe.append_left _ _) h0
                have hne : ∀ {b c : Nat} {x : AObj} {τ : Store}, sget b ((c, x) :: τ) = none → b ≠ c ∧ sget b τ = none := fun {b c x τ} h => by
                  rw [sget_cons] at h
                  split at h
                  · cases h
                  · rename_i e; exact ⟨e, h⟩
                have h1 := hne (happ h0).2
                have h2 := hne h1.2
                have h3 := hne (show sget c ((b8, _) :: _) = none from h2.2)
                have h4 := hne h3.2
                have h5 := hne h4.2
                have h6 := hne h5.2
                refine PubOK.cells hmc (fun y hy s ys => ?_) (.cons h1.1 (fun _ _ => rfl) (.cons h2.1 (fun _ _ => rfl) (.cons h3.1 (fun _ _ => rfl) (.cons h4.1 (fun _ _ => mkE_pub _ _ _ _) (.cons h5.1 (fun _ _ => rfl) (.cons h6.1 (fun _ _ => rfl) (.nil c)))))))
                obtain ⟨z, _, rfl⟩ := List.mem_map.1 hy
                rfl
              · have hmc : om ≠ some c := own_ne (SLe.append_left _ _) (hgF.fresh c hc)
                simp only [List.mem_cons, List.not_mem_nil, or_false] at hp
                rcases hp with rfl | rfl | rfl | rfl | rfl | rfl | rfl | rfl | rfl
                case inr.inr.inr.inl =>
                  show D.pub c 2 _ (.own om 2 made.length) = .own om 2 made.length
                  cases om with
                  | none => rfl
                  | some q =>
                    show (if q = c ∧ _ ∧ _ then _ else _) = _
                    rw [if_neg (fun h => hmc (by rw [h.1]))]
                all_goals first | rfl | exact absurd rfl hk
              simp only [go_sem]
              refine Gs.sq ?_
              obtain ⟨T0, hT0⟩ : ∃ T0 : Store, cellsOf om 2 (made.map XFile.d) ++ ((b15, AObj.arr 6 [E.d]) :: (b14, .arr 1 [nD n]) :: eS b3 b4 b8 mb m g l) = T0 := ⟨_, rfl⟩
              rw [hT0] at g15c ⊢
              have hFs : ∀ f ∈ F, f ∈ A ++ made := by rw [← hFe, ← hF]; exact kept_sub _ _
              have hFb : ∀ f ∈ F, f.b.length < 2 ^ 20 := fun f hf => by
                rcases List.mem_append.1 (hFs f hf) with h | h
                · exact (hev.file f (hAs f h)).1
                · exact (hmd f h).1
              have hFn : F.length < 2 ^ 31 := by
                have : F.length ≤ (A ++ made).length := by rw [← hFe, ← hF]; exact kept_len ..
                rw [List.length_append] at this
                omega
              have hcat := fun σ => concat_str_slc [E.ins, E.impl] σ (by simp) (fun x hx => by
                have h1 := hsmE.ins; have h2 := hsmE.impl
                simp only [List.mem_cons, List.not_mem_nil, or_false] at hx
                rcases hx with rfl | rfl <;> omega)
              have hfl2 : [E.ins, E.impl].flatten = E.ins ++ E.impl := by simp
              rw [hfl2] at hcat
              have hcook := fun σ => cook_calls E.cmd (E.ins ++ E.impl) F hEok.cmd hFn hFb (by have h1 := hsmE.ins; have h2 := hsmE.impl; rw [List.length_append]; omega) σ
              obtain ⟨xd, ez, hcd, hcs⟩ : ∃ xd : XDish, ∃ ez : Int, cookD (cookM E.cmd (E.ins ++ E.impl) F) = .tup [xd.d, eD ez] ∧ ((cookM E.cmd (E.ins ++ E.impl) F = none ∧ ez = 13) ∨ (cookM E.cmd (E.ins ++ E.impl) F = some xd ∧ ez = 0)) := by
                cases h : cookM E.cmd (E.ins ++ E.impl) F with
                | none => exact ⟨_, 13, rfl, .inl ⟨rfl, rfl⟩⟩
                | some x => exact ⟨x, 0, rfl, .inr ⟨rfl, rfl⟩⟩
              rw [hcd] at hcook
              have hxc : xd.d.cells.length = 4 := rfl
              have hxp : xd.d.plain = true := rfl
              refine Gs.drawT [4, 8, 11, 12, 15, 18, 49, 50, 51] [86] [b15] [] (.op 0 true (.op 1 true (.op 2 true (.op 3 true (.op 4 true (.op 5 true (.op 8 true (.op 6 true (.alt 7 13 (.alt 9 13 (.op 10 true (.op 11 true (.op 12 true (.op 13 false (.op 14 false (.op 15 true .nil)))))) (.op 9 false (.op 10 true (.op 11 true (.op 12 true (.op 14 false (.op 15 true .nil))))))) (.op 7 false (.op 9 false (.op 10 true (.op 11 true (.op 12 true (.op 14 false (.op 15 true .nil)))))))))))))))) (by kernel_rfl) (by decide) (by kernel_rfl) fun K hK => ?_; simp (maxSteps:=9^7) only [go_sem, g15c]
              refine (fun (hrest : ∀ (b19 : Nat) (env' : Env), sget b19 T0 = none → (eget 4 env' = .ptr b4 1 0 0 ∧ eget 8 env' = .ptr b8 1 0 0 ∧ eget 11 env' = .clo (.func 32) [] [.ptr b8 1 0 0, .ptr b4 1 0 0] ∧ eget 12 env' = .own om 2 made.length ∧ eget 15 env' = .ptr b15 6 0 0 ∧ eget 19 env' = .ptr b19 4 0 0 ∧ eget 20 env' = eD ez ∧ eget 49 env' = .slc (plan.map nD) ∧ eget 50 env' = .v (.int .i64 (plan.length : Int)) ∧ eget 51 env' = .v (.int .i64 (i : Int))) → K env' ((b19, .arr 4 [xd.d]) :: T0)) => ?_) ?_
              · refine ⟨by decide, ?_, ?_⟩
                · refine ⟨_, Tryz.call36, (hcat _).mono ?_⟩
                  rintro e σ1 ⟨rfl, rfl⟩
                  simp only [go_sem, g15c, hxc, hxp]
                  refine ⟨?_, ?_⟩
                  · refine ⟨_, Tryz.call42, (hcook _).mono ?_⟩
                    rintro e σ1 ⟨rfl, rfl⟩
                    simp only [go_sem, g15c, hxc, hxp]
                    intro b19 hb19
                    have h19 : b15 ≠ b19 := fun e => by rw [← e, g15c] at hb19; cases hb19
                    exact ⟨fun b hb => (by subst hb; rw [sget_cons, if_neg h19]), fun b hb => (by subst hb; rw [sget_cons, sget_cons, if_neg h19, if_neg h19]), hrest b19 _ hb19 ⟨rfl, rfl, rfl, rfl, rfl, rfl, rfl, rfl, rfl, rfl⟩⟩
                  · intro b19 hb19
                    have h19 : b15 ≠ b19 := fun e => by rw [← e, g15c] at hb19; cases hb19
                    refine ⟨fun b hb => (by subst hb; rw [sget_cons, if_neg h19]), ?_⟩
                    refine ⟨_, Tryz.call42, (hcook _).mono ?_⟩
                    rintro e σ1 ⟨rfl, rfl⟩
                    simp only [go_sem, g15c, hxc, hxp]
                    exact ⟨fun b hb => (by subst hb; rw [sget_cons, sget_cons, if_neg h19, if_neg h19]), hrest b19 _ hb19 ⟨rfl, rfl, rfl, rfl, rfl, rfl, rfl, rfl, rfl, rfl⟩⟩
                · intro b19 hb19
                  have h19 : b15 ≠ b19 := fun e => by rw [← e, g15c] at hb19; cases hb19
                  refine ⟨fun b hb => (by subst hb; rw [sget_cons, if_neg h19]), ?_⟩
                  refine ⟨_, Tryz.call36, (hcat _).mono ?_⟩
                  rintro e σ1 ⟨rfl, rfl⟩
                  simp only [go_sem, g15c, hxc, hxp]
                  refine ⟨_, Tryz.call42, (hcook _).mono ?_⟩
                  rintro e σ1 ⟨rfl, rfl⟩
                  simp only [go_sem, g15c, hxc, hxp]
                  exact ⟨fun b hb => (by subst hb; rw [sget_cons, sget_cons, if_neg h19, if_neg h19]), hrest b19 _ hb19 ⟨rfl, rfl, rfl, rfl, rfl, rfl, rfl, rfl, rfl, rfl⟩⟩
              rintro b19 env' hb19 ⟨e4, e8, e11, e12, e15, e19, e20, e49, e50, e51⟩
              refine hK _ _ ?_; clear hK K
              refine Gs.env_le (env' := [(4, .ptr b4 1 0 0), (8, .ptr b8 1 0 0), (11, .clo (.func 32) [] [.ptr b8 1 0 0, .ptr b4 1 0 0]), (12, .own om 2 made.length), (15, .ptr b15 6 0 0), (19, .ptr b19 4 0 0), (20, eD ez), (49, .slc (plan.map nD)), (50, .v (.int .i64 (plan.length : Int))), (51, .v (.int .i64 (i : Int)))]) ?_ (fun j => ?_)
              rotate_left
              · simp only [eget]
                repeat' split
                all_goals first
                  | (rename_i h; subst h; first | (rw [e4]; exact DLe.refl _) | (rw [e8]; exact DLe.refl _) | (rw [e11]; exact DLe.refl _) | (rw [e12]; exact DLe.refl _) | (rw [e15]; exact DLe.refl _) | (rw [e19]; exact DLe.refl _) | (rw [e20]; exact DLe.refl _) | (rw [e49]; exact DLe.refl _) | (rw [e50]; exact DLe.refl _) | (rw [e51]; exact DLe.refl _))
                  | exact DLe.any _
              rw [← hT0] at hb19 g15c ⊢
              obtain ⟨hgr3, hle3⟩ := hgr2.push (x := .arr 4 [xd.d]) hb19
              have hb19e := (hgr2.none_of hb19).1
              refine Gs.le (ELe.refl _) hle3 ?_
              have g19c := hgr3.keep (sget_self b19 (.arr 4 [xd.d]) ((b15, .arr 6 [E.d]) :: (b14, .arr 1 [nD n]) :: eS b3 b4 b8 mb m g l))
              have hk3 : ∀ {b : Nat} {o : AObj}, sget b ((b15, .arr 6 [E.d]) :: (b14, .arr 1 [nD n]) :: eS b3 b4 b8 mb m g l) = some o → sget b ((b19, .arr 4 [xd.d]) :: (b15, .arr 6 [E.d]) :: (b14, .arr 1 [nD n]) :: eS b3 b4 b8 mb m g l) = some o := fun {b o} h => by
                rw [sget_cons, if_neg (fun e => by rw [e, hb19e] at h; cases h)]; exact h
              have g15e := hgr3.keep (hk3 (sget_self b15 (.arr 6 [E.d]) ((b14, .arr 1 [nD n]) :: eS b3 b4 b8 mb m g l)))
              have hE6 : D.agg (List.take 6 E.d.cells) = E.d := rfl
              have hE6l : E.d.cells.length = 6 := rfl
              have hX4 : D.agg (List.take 4 xd.d.cells) = xd.d := rfl
              refine Gs.sq (Gs.sq ?_)
              rcases (show (cookM E.cmd (E.ins ++ E.impl) F = none ∧ ez = 13) ∨ (cookM E.cmd (E.ins ++ E.impl) F = some xd ∧ ez = 0 ∧ ((xd.dep.toList == E.dep.toList) && fitB E.outs xd.outs) = false) ∨ (cookM E.cmd (E.ins ++ E.impl) F = some xd ∧ ez = 0 ∧ ((xd.dep.toList == E.dep.toList) && fitB E.outs xd.outs) = true) from (by
                rcases hcs with h | ⟨h1, h2⟩
                · exact .inl h
                · cases h3 : ((xd.dep.toList == E.dep.toList) && fitB E.outs xd.outs) with
                  | false => exact .inr (.inl ⟨h1, h2, rfl⟩)
                  | true => exact .inr (.inr ⟨h1, h2, rfl⟩))) with ⟨hck, rfl⟩ | ⟨hck, rfl, hft⟩ | ⟨hck, rfl, hft⟩
              · have hes : evalStep g l n made = .inl 13 := by unfold evalStep; rw [hEe, hmn, hFe, hck]; rfl
                have he : evalGo g l plan [] = .inl 13 := by rw [← hgo, evalGo, hes]
                refine Gs.rg [4, 8, 11, 12, 15, 19, 20, 49, 50, 51] fun K hK => ?_; simp (maxSteps:=9^7) only [go_sem, eD]
                refine hK _ _ ?_; clear hK K
                refine Gs.condT rfl ?_
                refine Gs.sq (Gs.rg [] fun K hK => ?_); simp (maxSteps:=9^7) only [go_sem]
                refine hK _ _ ?_; clear hK K
                refine Gs.ret hC Tryz.func12 (by simp [go_sem]) ?_
                simp only [go_sem]
                rw [he]; rfl
              · have hes : evalStep g l n made = .inl 13 := by unfold evalStep; rw [hEe, hmn, hFe, hck]; simp only [hft]; rfl
                have he : evalGo g l plan [] = .inl 13 := by rw [← hgo, evalGo, hes]
                have hxo := cookM_outs hEok.cmd hck
                refine Gs.rg [4, 8, 11, 12, 15, 19, 20, 49, 50, 51] fun K hK => ?_; simp (maxSteps:=9^7) only [go_sem, eD, g15e, g19c, hE6, hE6l, hX4, hxc]
                refine ⟨_, Tryz.call28, (fits_calls E xd _ (by have := hsmE.outs; omega) (by omega)).mono ?_⟩
                rintro e σ1 ⟨rfl, rfl⟩
                simp only [go_sem, hft]
                refine hK _ _ ?_; clear hK K
                refine Gs.condT rfl ?_
                refine Gs.sq (Gs.rg [] fun K hK => ?_); simp (maxSteps:=9^7) only [go_sem]
                refine hK _ _ ?_; clear hK K
                refine Gs.ret hC Tryz.func12 (by simp [go_sem]) ?_
                simp only [go_sem]
                rw [he]; rfl
              · have hes : evalStep g l n made = .inr (made ++ xd.outs) := by unfold evalStep; rw [hEe, hmn, hFe, hck]; simp only [hft]; rfl
                rw [evalGo, hes] at hgo
                have hxo := cookM_outs hEok.cmd hck
                refine Gs.rg [4, 8, 11, 12, 15, 19, 20, 49, 50, 51] fun K hK => ?_; simp (maxSteps:=9^7) only [go_sem, eD, g15e, g19c, hE6, hE6l, hX4, hxc]
                refine ⟨_, Tryz.call28, (fits_calls E xd _ (by have := hsmE.outs; omega) (by omega)).mono ?_⟩
                rintro e σ1 ⟨rfl, rfl⟩
                simp only [go_sem, hft]
                refine hK _ _ ?_; clear hK K
                refine Gs.condF rfl ?_
                refine Gs.sk ?_
                have hxh : xd.d.cells.headD .any = .slc (xd.outs.map XFile.d) := rfl
                have ho := hgr3.oget
                have hd := hgr3.sdel
                have htk : List.take made.length (made.map XFile.d) = made.map XFile.d := List.take_of_length_le (by simp)
                refine Gs.rg [4, 8, 11, 12, 19, 49, 50, 51] fun K hK => ?_; simp (maxSteps:=9^7) only [go_sem, g19c, hxc, hxh, ho, hd, htk]
                refine ⟨⟨by simp, plain_file xd.outs, by simp only [List.length_map]; omega, by simp only [List.length_map]; omega⟩, fun ob hz hf => ?_⟩
                refine hK _ _ ?_; clear hK K
                have hmm : made.map XFile.d ++ xd.outs.map XFile.d = (made ++ xd.outs).map XFile.d := (List.map_append ..).symm
                rw [hmm] at hz ⊢
                have hgN : GrD ob 2 ((made ++ xd.outs).map XFile.d) (eS b3 b4 b8 mb m g l) := ⟨fun c hc => by
                  have hne : ∀ {b c : Nat} {x : AObj} {τ : Store}, sget b ((c, x) :: τ) = none → b ≠ c ∧ sget b τ = none := fun {b c x τ} h => by
                    rw [sget_cons] at h
                    split at h
                    · cases h
                    · rename_i e; exact ⟨e, h⟩
                  exact (hne (hne (hne (hf c hc)).2).2).2, hz⟩
                refine Gs.le (ELe.refl _) (σ' := cellsOf ob 2 ((made ++ xd.outs).map XFile.d) ++ eS b3 b4 b8 mb m g l) (SLe.append (SLe.append_left _ _) ?_) ?_
                · have hgB : GrD ob 2 ((made ++ xd.outs).map XFile.d) ((b19, .arr 4 [xd.d]) :: (b15, .arr 6 [E.d]) :: (b14, .arr 1 [nD n]) :: eS b3 b4 b8 mb m g l) := ⟨hf, hz⟩
                  exact (sle_push (sle_push (sle_push (SLe.refl _) hb14e) hb15e) hb19e).trans hgB.sle
                have hml2 : ((made ++ xd.outs).map XFile.d).length = (made ++ xd.outs).length := List.length_map ..
                rw [hml2]
                refine Gs.ib ?_
                refine Gs.rg [4, 8, 11, 12, 49, 50, 51] fun K hK => ?_; simp (maxSteps:=9^7) only [go_sem]
                refine hK _ _ ?_; clear hK K
                refine Gs.rebase [4, 8, 11, 12, 49, 50, 51] ?_
                simp only [go_sem]
                rw [wrap_succ i (by omega)]
                refine ih (i + 1) _ _ ⟨ob, made ++ xd.outs, ⟨by omega, hgo, ?_, ?_, hgN⟩, rfl, rfl⟩ (by omega)
                · have h1 := fit_len (Bool.and_eq_true _ _ ▸ hft).2
                  have h2 := hsmE.outs
                  rw [List.length_append]; omega
                · intro f hf2
                  rcases List.mem_append.1 hf2 with h | h
                  · exact hmd f h
                  · exact cookM_files hck f h
            · have hes : evalStep g l n made = .inl 6 := by unfold evalStep; rw [hEe, if_pos hmn]
              have he : evalGo g l plan [] = .inl 6 := by rw [← hgo, evalGo, hes]
              refine Gs.regionM [4, 8, 11, 12, 14, 15, 49, 50, 51] [64] fun K hK => ?_; simp (maxSteps:=9^7) only [go_sem, g15c]
              refine ⟨by decide, ?_⟩
              refine ⟨_, Tryz.call36, (hcc _).mono ?_⟩
              rintro e σ1 ⟨rfl, rfl⟩
              simp only [go_sem]
              refine ⟨_, Tryz.call34, (containsFunc_str E.needs _ [.ptr b8 1 0 0, .ptr b4 1 0 0] (missB g l) _ (by omega) (eval1_tests g mb b8 b4 l _ _ gmb g8b g4b (by omega) hb40)).mono ?_⟩
              rintro e σ1 ⟨rfl, rfl⟩
              simp only [go_sem, hmn]
              refine hK _ _ ?_; clear hK K
              refine Gs.condT rfl ?_
              refine Gs.sq (Gs.rg [] fun K hK => ?_); simp (maxSteps:=9^7) only [go_sem]
              refine hK _ _ ?_; clear hK K
              refine Gs.ret hC Tryz.func12 (by simp [go_sem]) ?_
              simp only [go_sem]
              rw [he]; rfl
          · have hie : i = plan.length := by
              have := h52
              simp at this; omega
            subst hie
            rw [List.drop_length, evalGo] at hgo
            refine Gs.exit rfl ?_
            refine Gs.sq (Gs.rg [12] fun K hK => ?_); simp (maxSteps:=9^7) only [go_sem]
            refine hK _ _ ?_; clear hK K
            refine Gs.ret hC Tryz.func12 (by simp [go_sem]) ?_
            simp only [go_sem]
            rw [← hgo]
            exact ⟨om, ⟨fun c hc => rfl, hgr.zero⟩, rfl, SLe.append_left _ _⟩
        · have he : evalG g l ts = .inl 6 := by unfold evalG; rw [hw]; simp only [Bool.false_eq_true, if_false, hp, hmt, if_true]
          refine Gs.rg [2, 4, 8, 10, 11] fun K hK => ?_; simp (maxSteps:=9^7) only [go_sem]
          refine ⟨_, Tryz.call34, (containsFunc_str (targetsOr g ts) _ [.ptr b8 1 0 0, .ptr b4 1 0 0] (missB g l) _ (by omega) (eval1_tests g mb b8 b4 l _ _ gm g8 g4 (by omega) hb40)).mono ?_⟩
          rintro e σ1 ⟨rfl, rfl⟩
          simp only [go_sem, hmt]
          refine hK _ _ ?_; clear hK K
          refine Gs.condT rfl ?_
          refine Gs.sq (Gs.rg [] fun K hK => ?_); simp (maxSteps:=9^7) only [go_sem]
          refine hK _ _ ?_; clear hK K
          refine Gs.ret hC Tryz.func12 (by simp [go_sem]) ?_
          simp only [go_sem]
          rw [he]; rfl
    · have he : evalG g l ts = .inl 5 := by unfold evalG; rw [if_pos hw]
      refine Gs.rg [2, 4, 8] fun K hK => ?_; simp (maxSteps:=9^7) only [go_sem, g8, hgdl, hgdh]
      refine ⟨_, Tryz.call25, (wrong_calls g hgok mb _ gm (sources_size hgok fun e he => (hev.edge e (by rw [← hgm]; exact he)).needs)).mono ?_⟩
      rintro e σ1 ⟨rfl, rfl⟩
      simp only [go_sem, hw]
      refine hK _ _ ?_; clear hK K
      refine Gs.condT rfl ?_
      refine Gs.sq (Gs.rg [] fun K hK => ?_); simp (maxSteps:=9^7) only [go_sem]
      refine hK _ _ ?_; clear hK K
      refine Gs.ret hC Tryz.func12 (by simp [go_sem]) ?_
      simp only [go_sem]
      rw [he]; rfl
end Go.Ab.S16
namespace Go.Ab
open Go
variable {P : Program} {N : Slots} {C : Ctx P N} {k : List Item} {env : Env} {σ : Store} {ops : Array Oper} {i j : Nat} {rest : List Nat} {o1 o2 : Oper}
theorem Gs.opBytes (ho1 : ops[i]? = some o1) (hg1 : o1.guard = none) (ho2 : ops[j]? = some o2) (hg2 : o2.guard = none) {T e8 : TypeId} {len k1 k2 : Nat} {ps : Array (Nat × Operand)} (hop1 : o1.op = .buildSlice T len ps) (hd1 : o1.dst = some k1) (hop2 : o2.op = .convert T T (.tmp k1)) (hd2 : o2.dst = some k2)
    (hN1 : dstB N (some k1)) (hN2 : dstB N (some k2)) (hT : P.underlying T = some (.slice e8)) (h8 : P.underlying e8 = some (.int .u8))
    (hv : vcRes P (Pan C) (fun env' σ' => Gs C (.inRegion ops rest :: k) (eputo (some k2) (eget k1 env') env') σ') (some k1) env σ (aBuildSlice P T len (ps.toList.map fun p => (p.1, ev env p.2)))) :
    Gs C (.inRegion ops (i :: j :: rest) :: k) env σ := by
  intro a w S hd h
  unfold aBuildSlice at hv
  split at hv
  · rename_i e he
    have hee : e = e8 := by
      have := relem_eq he
      rw [hT] at this
      cases this; rfl
    subst hee
    split at hv
    · rename_i n z hn hz
      split at hv
      · rename_i xs hxs
        obtain ⟨⟨h1, h2, h3, h4, h5⟩, hk⟩ := hv
        have hzr : Rep w S (ofV z) z := rep_ofV h1
        have hzc := rep_cells hzr h3
        have hzs : z.cells.size = n := by have := hzc.length; simpa [h2] using this
        obtain ⟨c', hf, hr', hs', hl'⟩ := fillSlice_ok (n := n) (len := len) _ (ps.toList.map fun p => (p.1, a.eval p.2)) _ xs ((Array.range (len * n)).map (z.cells[· % z.cells.size]!)) hxs (by simp) (parts_rep h ps.toList)
          (fun x hx => by rw [(List.mem_replicate.1 hx).2]; exact h2) (by simp) (made_zeros hzc h2)
        have hfl := flat_length xs n hs'
        have hcsz : c'.size = len * n := by have := hr'.length; rw [hfl, hl'] at this; simpa using this
        have hnb : ¬ (16777216 < len * n) := by omega
        have hf' : Instr.fill (fun i => some (i * n, n)) (Array.map (fun x => z.cells[x % z.cells.size]!) (Array.range (len * n))) (List.map (fun p => (p.1, a.eval p.2)) ps.toList) = some c' := hf
        have hrun1 : (execOp a.eval o1).run P w = .ok (.value (.slice (some ⟨w.heap.size, 0, none⟩) len len)) (w.alloc (.cells c' e)) := by
          by_cases h0 : len * n = 0
          · have hz0 : Array.map (fun x => z.cells[x % z.cells.size]!) (Array.range 0) = (#[] : Array Value) := by simp
            rw [h0, hz0] at hf'
            simp [execOp, hop1, Instr.buildSlice, run_underlying (relem_eq he), run_sizeOf hn, h0, hf', newRow, Array.range_zero']
          · simp [execOp, hop1, Instr.buildSlice, run_underlying (relem_eq he), run_sizeOf hn, run_zeroValue hz, h0, hnb, hf', newRow]
        have hw1 : Region.wanted o1 (yielded ops a.tmps) = true := by simp [Region.wanted, hg1]
        refine op_run ho1 hw1 (fun c hc => by rw [hop1] at hc; cases hc) ?_
        simp only [Oper.wp, Oper.upon, hrun1]
        have hw2 : Region.wanted o2 (yielded ops (a.put o1.dst (.slice (some ⟨w.heap.size, 0, none⟩) len len)).tmps) = true := by simp [Region.wanted, hg2]
        refine op_run ho2 hw2 (fun c hc => by rw [hop2] at hc; cases hc) ?_
        have hob : RepObj (w.alloc (.cells c' e (c'.size, c'.size + 1))) S w.heap.size (.arr n xs) :=
          ⟨c', e, c'.size, c'.size + 1, _, heap_alloc w _, hr'.ev (ev_alloc h.fr.lt _), fun k x hx => by simpa using hx, hs', .inr (Nat.le_refl _)⟩
        have hrep : Rep (w.alloc (.cells c' e (c'.size, c'.size + 1))) S (.own (some w.heap.size) n len) (.slice (some ⟨w.heap.size, 0, none⟩) len len) := Rep.own (heap_alloc w _) (Nat.le_refl _) (by omega) (by omega)
        have hs1 := sim_put (dst := some k1) h (dstB_ok hN1) hrep (store_alloc h.store h.fr.lt _ _ hob) (fr_alloc h _ (.arr n xs))
        have hs2 := sim_put (dst := some k2) hs1 (dstB_ok hN2) hrep hs1.store (Fr.refl _ hs1.fr.lt)
        have hev : (a.put o1.dst (.slice (some ⟨w.heap.size, 0, none⟩) len len)).eval (.tmp k1) = .slice (some ⟨w.heap.size, 0, none⟩) len len := by
          have hlt : k1 < a.tmps.size := by rw [h.size.1]; exact (dstB_ok hN1 k1 rfl).1
          rw [hd1]
          simp [Act.put, Act.eval, hlt]
        have hrun2 : (execOp (a.put o1.dst (.slice (some ⟨w.heap.size, 0, none⟩) len len)).eval o2).run P (w.alloc (.cells c' e)) = .ok (.value (.slice (some ⟨w.heap.size, 0, none⟩) len len)) (w.alloc (.cells c' e (c'.size, c'.size + 1))) := by
          have := Lib.run_convert_bytes_const (P := P) w T e c' len len hT h8
          simp [execOp, hop2, hev, this]
        simp only [Oper.wp, Oper.upon, hrun2]
        have hgo := hk _ (not_sdom_size h.store)
        rw [hd1, hd2]
        refine hgo _ _ S ?_ ?_
        · rw [put_defers, put_defers]; exact hd
        · simpa [eputo, eget_eput] using hs2
      · exact hv.elim
    · exact hv.elim
  · exact hv.elim
end Go.Ab
namespace Go.Ab.S16
open Go Go.Proofs Go.RowKit
def resF : Nat ⊕ List XFile → List XFile
  | .inl _ => []
  | .inr l => l
def resE : Nat ⊕ List XFile → Nat
  | .inl c => c
  | .inr _ => 0
theorem eval_calls (m : XMan) (l : List XFile) (ts : List ByteArray) (hev : EvOk m l ts) (σ : Store) :
    AC Tryz.prog 12 [m.d, .slc (l.map XFile.d), .slc (ts.map sD)] σ (fun e σ' => e = .ret (.tup [.slc ((resF (evalM m l ts)).map XFile.d), eD (resE (evalM m l ts))]) ∧ σ' = σ) := by
  have h := eval_own m l ts hev
  have h2 : AC Tryz.prog 12 [m.d, .slc (l.map XFile.d), .slc (ts.map sD)] [] (fun e σ' => (e = .ret (.tup [.slc ((resF (evalM m l ts)).map XFile.d), eD (resE (evalM m l ts))]) ∧ σ' = []) ∨ ∃ fs b, evalM m l ts = .inr fs ∧ e = .ret (.tup [.own (some b) 2 fs.length, eD 0]) ∧ σ' = [(b, .arr 2 (fs.map XFile.d))]) := by
    refine (h.ret_le (R' := fun e σ' => (e = .ret (.tup [.slc ((resF (evalM m l ts)).map XFile.d), eD (resE (evalM m l ts))])) ∨ ∃ fs b, evalM m l ts = .inr fs ∧ e = .ret (.tup [.own (some b) 2 fs.length, eD 0]) ∧ SLe [(b, .arr 2 (fs.map XFile.d))] σ') fun e σ' hR => ?_).forget fun e σ' hR => ?_
    · cases hc : evalM m l ts with
      | inl c =>
        rw [hc] at hR
        refine .inr ⟨_, _, hR, fun w S v hv => ?_, .inl rfl⟩
        cases hv with
        | tup hr =>
          obtain ⟨v0, vs, rfl, r0, hr2⟩ := hr.cons_inv
          exact .tup (.cons (DLe.nil_slc w S v0 r0) hr2)
      | inr fs =>
        rw [hc] at hR
        obtain ⟨o, hg, he, hs⟩ := hR
        cases o with
        | some b => exact .inl (.inr ⟨fs, b, rfl, he, hs⟩)
        | none =>
          have hx := hg.zero rfl
          refine .inr ⟨_, _, he, fun w S v hv => ?_, .inl rfl⟩
          cases hv with
          | tup hr =>
            obtain ⟨v0, vs, rfl, r0, hr2⟩ := hr.cons_inv
            refine .tup (.cons ?_ hr2)
            show Rep w S (.slc (fs.map XFile.d)) v0
            rw [hx]
            exact DLe.own_slc _ _ w S v0 r0
    · rcases hR with h | ⟨fs, b, h1, h2, h3⟩
      · exact ⟨[], SLe.nil _, .inl ⟨h, rfl⟩⟩
      · exact ⟨_, h3, .inr ⟨fs, b, h1, h2, rfl⟩⟩
  refine h2.pub1 (R' := fun e => e = .ret (.tup [.slc ((resF (evalM m l ts)).map XFile.d), eD (resE (evalM m l ts))])) (fun e σ' hR => ?_) σ
  rcases hR with h3 | ⟨fs, b, hc, rfl, rfl⟩
  · exact .inl h3
  · refine .inr ⟨_, b, 2, _, rfl, rfl, ?_⟩
    rw [hc]
    unfold eD resF resE
    simp only [D.pub, pubs, true_and]
    rw [if_pos (by simp), List.take_of_length_le (by simp)]
    rfl
def str (l : List UInt8) : ByteArray := lB l
def awM : XMan := ⟨[⟨[lB [99]], [lB [98]], [], [], lB [99, 97, 116, 32, 98, 32, 98, 32, 62, 32, 99], lB []⟩, ⟨[lB [98]], [lB [97]], [], [], lB [99, 97, 116, 32, 97, 32, 62, 32, 98], lB []⟩], []⟩
def awL : List XFile := [⟨lB [97], [120]⟩]
def awOut : List XFile := [⟨lB [98], [120]⟩, ⟨lB [99], [120, 120]⟩]
theorem aw_eval : evalM awM awL [] = .inr awOut := by kernel_rfl
theorem spans_len (p : Nat → Bool) (s : ByteArray) : ∀ (f pos : Nat) (st : Option Nat) (acc : List (Nat × Nat)), (Lib.spansFromP p s f pos st acc).1.length ≤ acc.length + f
  | 0, _, _, _ => Nat.le_refl _
  | f + 1, pos, st, acc => by
    unfold Lib.spansFromP
    split
    · split
      · split
        · refine Nat.le_trans (spans_len p s f _ _ _) ?_
          rw [List.length_append]
          simp; omega
        · exact Nat.le_trans (spans_len p s f _ _ _) (by omega)
      · split
        · exact Nat.le_trans (spans_len p s f _ _ _) (by omega)
        · exact Nat.le_trans (spans_len p s f _ _ _) (by omega)
    · exact Nat.le_add_right _ _
theorem words_len (s : ByteArray) : (wordsM s).length ≤ s.size + 1 := by
  unfold wordsM Lib.goFieldsP Lib.spansOfP
  rw [List.length_map]
  have := spans_len (fun x => x == 32) s s.size 0 none []
  generalize Lib.spansFromP (fun x => x == 32) s s.size 0 none [] = r at this
  unfold Lib.closeSpans
  split
  · rw [List.length_append]; simp at this ⊢; omega
  · simp at this; omega
theorem words_size (s : ByteArray) : ∀ w ∈ wordsM s, w.size ≤ s.size := fun w hw => by
  unfold wordsM Lib.goFieldsP at hw
  obtain ⟨x, _, rfl⟩ := List.mem_map.1 hw
  rw [ByteArray.size_extract]
  omega
theorem outsM_sub {ws outs : List ByteArray} {dep : ByteArray} (h : outsM ws = some (outs, dep)) : outs.length ≤ ws.length := by
  have key : ∀ {ws outs : List ByteArray} {d dep : ByteArray}, chkO ws d = some (outs, dep) → outs = ws := fun {ws outs d dep} h => by
    unfold chkO at h
    split at h
    · cases h; rfl
    · cases h
  unfold outsM at h
  split at h
  · split at h
    · rw [key h, List.length_take]; omega
    · cases h
  · rw [key h]; exact Nat.le_refl _
theorem shapeM_sub {cmd : ByteArray} {x : Shp} (h : shapeM cmd = some x) : x.args.length ≤ (wordsM cmd).length ∧ (∀ w ∈ x.args, w ∈ wordsM cmd) ∧ x.outs.length ≤ (wordsM cmd).length := by
  have key : ∀ {o : Bool} {ws : List ByteArray}, shapeW o ws = some x → x.args.length ≤ ws.length ∧ (∀ w ∈ x.args, w ∈ ws) ∧ x.outs.length ≤ ws.length := fun {o ws} h => by
    unfold shapeW at h
    split at h
    · split at h
      · split at h
        · rename_i ho
          split at h
          · cases h
            have := outsM_sub ho
            refine ⟨?_, fun w hw => List.mem_of_mem_take (List.mem_of_mem_drop hw), ?_⟩
            · simp only [List.length_drop, List.length_take]; omega
            · rw [List.length_drop] at this; exact Nat.le_trans this (by omega)
          · cases h
        · cases h
      · cases h
    · cases h
  unfold shapeM at h
  split at h
  · obtain ⟨h1, h2, h3⟩ := key h
    rw [List.length_drop] at h1 h3
    exact ⟨by omega, fun w hw => List.mem_of_mem_drop (h2 w hw), by omega⟩
  · exact key h
theorem join_len (c : UInt8) (B : Nat) : ∀ l : List (List UInt8), (∀ x ∈ l, x.length ≤ B) → (Lib.join l [c]).length ≤ l.length * (B + 1)
  | [], _ => by simp [Lib.join_nil]
  | x :: r, h => by
    have h1 := lenP_join (x :: r) c
    have h2 : lenP (x :: r) ≤ (x :: r).length * (B + 1) := by
      have : ∀ l : List (List UInt8), (∀ x ∈ l, x.length ≤ B) → lenP l ≤ l.length * (B + 1) := by
        intro l
        induction l with
        | nil => intro _; simp [lenP]
        | cons y l ih =>
          intro hl
          have a := hl y (by simp)
          have b := ih fun z hz => hl z (by simp [hz])
          unfold lenP at b ⊢
          rw [List.map_cons, List.sum_cons, List.length_cons, Nat.succ_mul]
          omega
      exact this _ h
    exact Nat.le_trans h1 h2
theorem cmdOk (cmd : ByteArray) (h : cmd.size ≤ 20000) : CmdOk cmd := by
  have h1 := words_len cmd
  refine ⟨by omega, by omega, fun w hw => by have := words_size cmd w hw; omega, fun x hx => ?_⟩
  obtain ⟨a1, a2, a3⟩ := shapeM_sub hx
  refine ⟨by omega, ?_, by omega⟩
  have := join_len 32 20000 (x.args.map (·.data.toList)) (fun y hy => by
    obtain ⟨w, hw, rfl⟩ := List.mem_map.1 hy
    have := words_size cmd w (a2 w hw)
    have hs : w.data.toList.length = w.size := by simp
    omega)
  rw [List.length_map] at this
  have : x.args.length * (20000 + 1) ≤ 20001 * 20001 := Nat.mul_le_mul (by omega) (by omega)
  omega
end Go.Ab.S16
namespace Go.Ab
open Go
variable {P : Program}
mutual
def nn : D → D
  | .v (.slice none 0 0) => .slc []
  | .agg cs => .agg (nns cs)
  | .slc xs => .slc (nns xs)
  | .tup xs => .tup (nns xs)
  | d => d
def nns : List D → List D
  | [] => []
  | d :: r => nn d :: nns r
end
theorem nns_map : ∀ ds, nns ds = ds.map nn
  | [] => rfl
  | d :: ds => by rw [nns, nns_map ds]; rfl
theorem nn_v (x : Value) : nn (.v x) = .v x ∨ (x = .slice none 0 0 ∧ nn (.v x) = .slc []) := by
  by_cases h : x = .slice none 0 0
  · subst h; exact .inr ⟨rfl, by unfold nn; rfl⟩
  · refine .inl ?_
    unfold nn
    split <;> first | rfl | simp_all
theorem nn_cells (d : D) : (nn d).cells = d.cells.map nn := by
  cases d with
  | agg cs => simp [nn, D.cells, nns_map]
  | slc xs => simp [nn, D.cells]
  | tup xs => simp [nn, D.cells]
  | v x =>
    rcases nn_v x with h | ⟨_, h⟩ <;> simp [h, D.cells]
  | _ => simp [nn, D.cells]
theorem flat_nns : ∀ ds : List D, flat (ds.map nn) = (flat ds).map nn
  | [] => rfl
  | d :: ds => by simp [nn_cells, flat_nns ds]
mutual
theorem rep_nn {w : World} {S : Nat → Prop} : ∀ {d : D} {v : Value}, Rep w S d v → Rep w S (nn d) v
  | _, _, .any => .any
  | _, _, .v (x := x) h => by
    rcases nn_v x with h1 | ⟨rfl, h1⟩
    · rw [h1]; exact .v h
    · rw [h1]; exact .slc0
  | _, _, .ptr => .ptr
  | _, _, .elt h1 h2 h3 => .elt h1 h2 h3
  | _, _, .slc0 => .slc0
  | _, _, .slc (xs := xs) (cap := cap) (b := b) (off := off) h1 h2 h3 h4 h5 => by
    have hl : (nns xs).length = xs.length := by rw [nns_map, List.length_map]
    have hr := repL_nn h2
    rw [nns_map, ← flat_nns, ← nns_map] at hr
    have key : Rep w S (.slc (nns xs)) (.slice (some ⟨b, off, none⟩) (nns xs).length cap) := Rep.slc h1 hr h3 (fun y hy => by
      rw [nns_map] at hy
      obtain ⟨z, hz, rfl⟩ := List.mem_map.1 hy
      rw [nn_cells, List.length_map]; exact h4 z hz) (by rw [hl]; exact h5)
    rw [hl] at key
    exact key
  | _, _, .own0 => .own0
  | _, _, .own hh hn hc hm => .own hh hn hc hm
  | _, _, .win0 => .win0
  | _, _, .win hh hn hc hm => .win hh hn hc hm
  | _, _, .agg hr => .agg (repL_nn hr)
  | _, _, .tup hr => .tup (repL_nn hr)
  | _, _, .map => .map
  | _, _, .clo hf hc => .clo hf hc
  | _, _, .ifc h => .ifc h
theorem repL_nn {w : World} {S : Nat → Prop} : ∀ {ds : List D} {vs : List Value}, RepL w S ds vs → RepL w S (nns ds) vs
  | _, _, .nil => .nil
  | _, _, .cons h t => .cons (rep_nn h) (repL_nn t)
end
theorem AC.nn {f : FuncId} {args args' : List D} {σ : Store} {R : AEnd → Store → Prop} (h : AC P f args' σ R) (he : nns args = args') : AC P f args σ R :=
  h.args_le fun w S vs hr => he ▸ repL_nn hr
end Go.Ab
namespace Go.Ab.S16
open Go Go.Proofs Go.RowKit
theorem edgeOk (outs ins impl order : List ByteArray) (cmd dep : ByteArray) (h1 : outs.length ≤ 10) (h2 : ins.length ≤ 10) (h3 : impl.length ≤ 10) (h4 : order.length ≤ 10) (hc : cmd.size ≤ 20000) (hs : ∀ f ∈ outs ++ ins ++ impl ++ order, f.size < 2 ^ 40) : EdgeOk ⟨outs, ins, impl, order, cmd, dep⟩ :=
  ⟨⟨h1, h2, h3, h4⟩, cmdOk cmd hc, fun f hf => hs f (by simp [hf]), fun f hf => hs f (by
    have : f ∈ ins ++ impl ++ order := hf
    simp only [List.mem_append] at this ⊢
    rcases this with (h | h) | h
    · exact .inl (.inl (.inr h))
    · exact .inl (.inr h)
    · exact .inr h)⟩
theorem aw_ok : EvOk awM awL [] := by
  refine ⟨by decide, fun e he => ?_, by decide, by decide, fun f hf => ?_, by decide⟩
  · simp only [awM, List.mem_cons, List.not_mem_nil, or_false] at he
    rcases he with rfl | rfl
    · exact edgeOk _ _ _ _ _ _ (by decide) (by decide) (by decide) (by decide) (by decide) (by decide)
    · exact edgeOk _ _ _ _ _ _ (by decide) (by decide) (by decide) (by decide) (by decide) (by decide)
  · simp only [awL, List.mem_cons, List.not_mem_nil, or_false] at hf
    subst hf
    exact ⟨by decide, by decide⟩
theorem at4 {α : Type} (a b c d e : α) (l : List α) : (a :: b :: c :: d :: e :: l).toArray[4]? = some e := rfl
theorem at5 {α : Type} (a b c d e f : α) (l : List α) : (a :: b :: c :: d :: e :: f :: l).toArray[5]? = some f := rfl
theorem at6 {α : Type} (a b c d e f g : α) (l : List α) : (a :: b :: c :: d :: e :: f :: g :: l).toArray[6]? = some g := rfl
theorem at7 {α : Type} (a b c d e f g h : α) (l : List α) : (a :: b :: c :: d :: e :: f :: g :: h :: l).toArray[7]? = some h := rfl
theorem at8 {α : Type} (a b c d e f g h i : α) (l : List α) : (a :: b :: c :: d :: e :: f :: g :: h :: i :: l).toArray[8]? = some i := rfl
theorem at9 {α : Type} (a b c d e f g h i j : α) (l : List α) : (a :: b :: c :: d :: e :: f :: g :: h :: i :: j :: l).toArray[9]? = some j := rfl
theorem at10 {α : Type} (a b c d e f g h i j k : α) (l : List α) : (a :: b :: c :: d :: e :: f :: g :: h :: i :: j :: k :: l).toArray[10]? = some k := rfl
theorem awake_calls (σ : Store) : AC Tryz.prog 17 [] σ (fun e σ' => e = .ret (.v (.bool true)) ∧ σ' = σ) := by
  refine AC.still ?_ σ
  refine AC.forget (R := fun e _ => e = .ret (.v (.bool true))) ?_ fun e σ' h => ⟨[], SLe.nil _, h, rfl⟩
  have hev := fun σ => eval_calls awM awL [] aw_ok σ
  simp only [aw_eval, resF, resE] at hev
  refine AC.of_body Tryz.func17 rfl Tryz.ntmps17 (by simp) fun C hC => ?_
  refine Gs.sq (Gs.rg [] fun K hK => ?_); simp (maxSteps:=9^7) only [go_sem]
  refine hK _ _ ?_; clear hK K
  refine Gs.sq ?_
  refine Gs.regionM [] [4, 5, 7, 8, 10] fun K hK => ?_; simp (maxSteps:=9^7) only [go_sem]
  refine ⟨by decide, by decide, by decide, by decide, ⟨by decide, by decide⟩, fun b1 => ?_⟩
  refine hK _ _ ?_; clear hK K
  refine Gs.sq ?_
  refine Gs.regionOpen [1] ?_
  refine Gs.op (at0 _ _) rfl nofun dstB_lit ?_
  simp only [go_sem]
  refine Gs.opBytes (e8 := 5) (at1 _ _ _) rfl (at2 _ _ _ _) rfl rfl rfl rfl rfl dstB_lit dstB_lit (by kernel_rfl) (by kernel_rfl) ?_
  simp only [go_sem]
  refine ⟨by decide, fun b hb => ?_⟩
  refine Gs.rebase [13, 15] ?_
  simp only [go_sem]
  refine Gs.le (ELe.refl _) (σ' := cellsOf (some b) 1 [bD 120] ++ []) (sle_cons2 (SLe.nil _)) ?_
  refine pubSlot2 15 (o := some b) (xs := [bD 120]) rfl ⟨fun c hc => rfl, nofun⟩ (fun c hc => PubOK.nil c) (fun c hc p hp hk => ?_) ?_
  · simp only [List.mem_cons, List.not_mem_nil, or_false] at hp
    rcases hp with rfl | rfl
    · rfl
    · exact absurd rfl hk
  simp only [go_sem]
  refine Gs.op (at3 _ _ _ _ _) rfl nofun dstB_lit ?_
  simp only [go_sem]
  refine Gs.op (at4 _ _ _ _ _ _) rfl nofun dstB_lit ?_
  simp only [go_sem]
  refine ⟨⟨by decide, by decide⟩, fun b2 => ?_⟩
  refine Gs.rebase [13, 17] ?_
  simp only [go_sem]
  refine Gs.le (ELe.refl _) (σ' := cellsOf (some b2) 2 (awL.map XFile.d) ++ []) (sle_cons2 (SLe.nil _)) ?_
  refine pubSlot2 17 (o := some b2) (xs := awL.map XFile.d) rfl ⟨fun c hc => rfl, nofun⟩ (fun c hc => PubOK.nil c) (fun c hc p hp hk => ?_) ?_
  · simp only [List.mem_cons, List.not_mem_nil, or_false] at hp
    rcases hp with rfl | rfl
    · rfl
    · exact absurd rfl hk
  simp only [go_sem]
  refine Gs.op (at5 _ _ _ _ _ _ _) rfl nofun dstB_lit ?_
  simp only [go_sem]
  refine ⟨_, Tryz.call12, ((hev _).nn (by kernel_rfl)).mono ?_⟩
  rintro e σ1 ⟨rfl, rfl⟩
  simp only [go_sem]
  refine Gs.op (at6 _ _ _ _ _ _ _ _) rfl nofun dstB_lit ?_
  simp only [go_sem]
  refine Gs.op (at7 _ _ _ _ _ _ _ _ _) rfl nofun dstB_lit ?_
  simp only [go_sem]
  refine Gs.op (at8 _ _ _ _ _ _ _ _ _ _) rfl nofun dstB_lit ?_
  simp only [go_sem]
  refine Gs.op (at9 _ _ _ _ _ _ _ _ _ _ _) rfl nofun dstB_lit ?_
  simp only [go_sem]
  refine Gs.op (at10 _ _ _ _ _ _ _ _ _ _ _ _) rfl nofun dstB_lit ?_
  simp only [go_sem]
  refine Gs.regionEnd ?_
  refine Gs.sq ?_
  have ho : awOut.map XFile.d = [.agg [.v (.string ⟨#[98]⟩), .slc [bD 120]], .agg [.v (.string ⟨#[99]⟩), .slc [bD 120, bD 120]]] := rfl
  rw [ho]
  unfold eD
  have h00 : (((0 : Nat) : Int) == 0) = true := rfl
  have h22 : (((2 : Nat) : Int) == 2) = true := rfl
  have hdc : decide ((0 : Int) ≤ ((UInt8.toNat 120 : Nat) : Int) ∧ ((UInt8.toNat 120 : Nat) : Int) < 256) = true := by decide
  have hb1 : bytesOf [D.v (Value.int .u8 ((UInt8.toNat 120 : Nat) : Int))] = ⟨#[120]⟩ := rfl
  have hb2 : bytesOf [D.v (Value.int .u8 ((UInt8.toNat 120 : Nat) : Int)), D.v (Value.int .u8 ((UInt8.toNat 120 : Nat) : Int))] = ⟨#[120, 120]⟩ := rfl
  refine Gs.rg [2, 3] fun K hK => ?_; simp (maxSteps:=9^7) only [go_sem, h00, h22, hdc, hb1, hb2, BEq.rfl, Bool.and_self]
  refine ⟨by decide, by decide, by decide, by decide, ?_⟩
  refine hK _ _ ?_; clear hK K
  refine Gs.ret hC Tryz.func17 (by simp [go_sem]) ?_
  simp only [go_sem]
def XEdge.all (e : XEdge) : List ByteArray := e.outs ++ e.ins ++ e.impl ++ e.order
def nmsTo (m : XMan) (i : Nat) : List ByteArray := m.defs ++ (m.edges.take i).flatMap XEdge.all
def fewE (e : XEdge) : Bool := decide (e.outs.length ≤ 10 ∧ e.ins.length ≤ 10 ∧ e.impl.length ≤ 10 ∧ e.order.length ≤ 10 ∧ e.cmd.size ≤ 300 ∧ e.dep.size ≤ 200)
def fewB (m : XMan) : Bool := decide (m.edges.length ≤ 30 ∧ m.defs.length ≤ 20) && m.edges.all fewE && (nmsTo m m.edges.length).all fun f => decide (f.size ≤ 200)
theorem nmsTo_succ (m : XMan) (i : Nat) (h : i < m.edges.length) : nmsTo m (i + 1) = nmsTo m i ++ m.edges[i].all := by
  unfold nmsTo
  rw [List.take_succ_eq_append_getElem h, List.flatMap_append, ← List.append_assoc]
  simp
theorem few_edge {m : XMan} (h : fewB m = true) : ∀ e ∈ m.edges, fewE e = true := fun e he => by
  unfold fewB at h
  rw [Bool.and_eq_true, Bool.and_eq_true, List.all_eq_true] at h
  exact h.1.2 e he
theorem few_names {m : XMan} (h : fewB m = true) : ∀ f ∈ nmsTo m m.edges.length, f.size ≤ 200 := fun f hf => by
  unfold fewB at h
  rw [Bool.and_eq_true, List.all_eq_true] at h
  simpa using h.2 f hf
theorem few_len {m : XMan} (h : fewB m = true) : m.edges.length ≤ 30 ∧ m.defs.length ≤ 20 := by
  unfold fewB at h
  rw [Bool.and_eq_true, Bool.and_eq_true, decide_eq_true_eq] at h
  exact h.1.1
theorem fewE_small {e : XEdge} (h : fewE e = true) : e.small ∧ e.cmd.size ≤ 300 ∧ e.dep.size ≤ 200 := by
  unfold fewE at h
  rw [decide_eq_true_eq] at h
  exact ⟨⟨h.1, h.2.1, h.2.2.1, h.2.2.2.1⟩, h.2.2.2.2⟩
theorem fewB_no {m : XMan} (h : fewB m = true → False) : D.v (Value.bool false) = D.v (Value.bool (fewB m)) := by
  cases hb : fewB m with
  | false => rfl
  | true => exact (h hb).elim
theorem fw1 {m : XMan} (h : 30 < m.edges.length ∨ 20 < m.defs.length) : AEnd.ret (D.v (Value.bool false)) = AEnd.ret (D.v (Value.bool (fewB m))) := congrArg AEnd.ret (fewB_no fun hb => by have := few_len hb; omega)
theorem fw2 {m : XMan} {i : Nat} (hi : i < m.edges.length) (h : 10 < m.edges[i].outs.length ∨ 10 < m.edges[i].ins.length ∨ 10 < m.edges[i].impl.length ∨ 10 < m.edges[i].order.length ∨ 300 < m.edges[i].cmd.size ∨ 200 < m.edges[i].dep.size) : AEnd.ret (D.v (Value.bool false)) = AEnd.ret (D.v (Value.bool (fewB m))) := congrArg AEnd.ret (fewB_no fun hb => by obtain ⟨⟨a1, a2, a3, a4⟩, a5, a6⟩ := fewE_small (few_edge hb _ (List.getElem_mem hi)); omega)
theorem fw3 {m : XMan} {j : Nat} (hj : j < (nmsTo m m.edges.length).length) (h : 200 < (nmsTo m m.edges.length)[j].size) : AEnd.ret (D.v (Value.bool false)) = AEnd.ret (D.v (Value.bool (fewB m))) := congrArg AEnd.ret (fewB_no fun hb => by have := few_names hb _ (List.getElem_mem hj); omega)
theorem all_len {e : XEdge} (h : e.small) : e.all.length ≤ 40 := by
  have h1 := h.outs
  have h2 := h.ins
  have h3 := h.impl
  have h4 := h.order
  unfold XEdge.all
  simp only [List.length_append]
  omega
theorem nmsTo_len {m : XMan} (hd : m.defs.length ≤ 20) : ∀ i, i ≤ m.edges.length → (∀ e ∈ m.edges.take i, fewE e = true) → (nmsTo m i).length ≤ 20 + 40 * i
  | 0, _, _ => by simp [nmsTo]; omega
  | i + 1, h, hs => by
    rw [List.take_succ_eq_append_getElem (by omega)] at hs
    have h1 := nmsTo_len hd i (by omega) fun e he => hs e (List.mem_append.2 (.inl he))
    have h2 := all_len (fewE_small (hs m.edges[i] (List.mem_append.2 (.inr (List.mem_singleton.2 rfl))))).1
    rw [nmsTo_succ m i (by omega), List.length_append]
    omega
theorem fewB_yes {m : XMan} (h1 : m.edges.length ≤ 30) (h2 : m.defs.length ≤ 20) (h3 : ∀ e ∈ m.edges.take m.edges.length, fewE e = true) (h4 : ∀ f ∈ (nmsTo m m.edges.length).take (nmsTo m m.edges.length).length, f.size ≤ 200) : D.v (Value.bool true) = D.v (Value.bool (fewB m)) := by
  rw [List.take_length] at h3 h4
  have : fewB m = true := by
    unfold fewB
    rw [Bool.and_eq_true, Bool.and_eq_true, List.all_eq_true, List.all_eq_true, decide_eq_true_eq]
    exact ⟨⟨⟨h1, h2⟩, h3⟩, fun f hf => by simpa using h4 f hf⟩
  rw [this]
set_option maxRecDepth 4000 in
theorem few_calls (m : XMan) (σ : Store) : AC Tryz.prog 10 [m.d] σ (fun e σ' => e = .ret (.v (.bool (fewB m))) ∧ σ' = σ) := by
  refine AC.still ?_ σ
  refine AC.forget (R := fun e _ => e = .ret (.v (.bool (fewB m)))) ?_ fun e σ' h => ⟨[], SLe.nil _, h, rfl⟩
  unfold XMan.d
  have hll : (m.edges.map XEdge.d).length = m.edges.length := List.length_map ..
  have hdl : (m.defs.map sD).length = m.defs.length := List.length_map ..
  refine AC.of_body Tryz.func10 rfl Tryz.ntmps10 (by simp) fun C hC => ?_
  refine Gs.sq (Gs.rg [0] fun K hK => ?_); simp (maxSteps:=9^7) only [go_sem]
  intro b1
  refine hK _ _ ?_; clear hK K
  generalize hσ : [(b1, AObj.arr 2 [D.agg [.slc (m.edges.map XEdge.d), .slc (m.defs.map sD)]])] = ρ
  have g1 : sget b1 ρ = some (.arr 2 [D.agg [.slc (m.edges.map XEdge.d), .slc (m.defs.map sD)]]) := by rw [← hσ, sget_self]
  refine Gs.sq (Gs.sq ?_)
  rcases (show (30 < m.edges.length) ∨ (m.edges.length ≤ 30 ∧ 20 < m.defs.length) ∨ (m.edges.length ≤ 30 ∧ m.defs.length ≤ 20) from by omega) with h1 | ⟨h1, h2⟩ | ⟨h1, h2⟩
  · have d1 : decide (((m.edges.length : Nat) : Int) > 30) = true := decide_eq_true (by omega)
    refine Gs.rg [1] fun K hK => ?_; simp (maxSteps:=9^7) only [go_sem, g1, hll, hdl, d1]
    refine hK _ _ ?_; clear hK K
    refine Gs.condT rfl ?_
    refine Gs.sq (Gs.rg [] fun K hK => ?_); simp (maxSteps:=9^7) only [go_sem]
    refine hK _ _ ?_; clear hK K
    refine Gs.ret hC Tryz.func10 (by simp [go_sem]) ?_
    simp only [go_sem]
    first | exact fw1 (by omega) | exact fw2 hlt (by omega) | exact fw3 hltj (by omega) | exact congrArg AEnd.ret (fewB_yes h1 h2 hfe hjs) | skip
  · have d1 : decide (((m.edges.length : Nat) : Int) > 30) = false := decide_eq_false (by omega)
    have d2 : decide (((m.defs.length : Nat) : Int) > 20) = true := decide_eq_true (by omega)
    refine Gs.rg [1] fun K hK => ?_; simp (maxSteps:=9^7) only [go_sem, g1, hll, hdl, d1, d2]
    refine hK _ _ ?_; clear hK K
    refine Gs.condT rfl ?_
    refine Gs.sq (Gs.rg [] fun K hK => ?_); simp (maxSteps:=9^7) only [go_sem]
    refine hK _ _ ?_; clear hK K
    refine Gs.ret hC Tryz.func10 (by simp [go_sem]) ?_
    simp only [go_sem]
    first | exact fw1 (by omega) | exact fw2 hlt (by omega) | exact fw3 hltj (by omega) | exact congrArg AEnd.ret (fewB_yes h1 h2 hfe hjs) | skip
  · have d1 : decide (((m.edges.length : Nat) : Int) > 30) = false := decide_eq_false (by omega)
    have d2 : decide (((m.defs.length : Nat) : Int) > 20) = false := decide_eq_false (by omega)
    refine Gs.rg [1] fun K hK => ?_; simp (maxSteps:=9^7) only [go_sem, g1, hll, hdl, d1, d2]
    refine hK _ _ ?_; clear hK K
    refine Gs.condF rfl ?_
    refine Gs.sk ?_
    refine Gs.sq ?_
    refine Gs.regionM [1] [17] fun K hK => ?_; simp (maxSteps:=9^7) only [go_sem, g1, hdl]
    refine ⟨⟨plain_sD _, by omega, by omega⟩, fun o hz hf => ?_⟩
    have hgr0 : GrD o 1 ((nmsTo m 0).map sD) ρ := ⟨hf, by unfold nmsTo; simpa using hz⟩
    have hn0 : nmsTo m 0 = m.defs := by unfold nmsTo; simp
    refine hK _ _ ?_; clear hK K
    refine Gs.sq (Gs.sq ?_)
    refine Gs.rg [1, 3] fun K hK => ?_; simp (maxSteps:=9^7) only [go_sem]
    refine hK _ _ ?_; clear hK K
    refine Gs.bk ?_
    refine Gs.rebase [1, 3, 4] ?_
    simp only [go_sem]
    refine Gs.while (fun (i : Nat) env' σ'' => ∃ o : Option Nat, (i ≤ m.edges.length ∧ GrD o 1 ((nmsTo m i).map sD) ρ ∧ ∀ e ∈ m.edges.take i, fewE e = true) ∧ env' = [(1, .ptr b1 2 0 0), (3, .own o 1 (nmsTo m i).length), (4, .v (.int .i64 (i : Int)))] ∧ σ'' = cellsOf o 1 ((nmsTo m i).map sD) ++ ρ) (fun (i : Nat) => m.edges.length - i) 0 ⟨o, ⟨by omega, hgr0, by simp⟩, by rw [hn0]; rfl, by rw [hn0]⟩ ?_
    rintro i env' σ'' ⟨o, ⟨hi, hgr, hfe⟩, rfl, rfl⟩ ih
    have ih1 := ih
    refine Gs.sq (Gs.sq ?_)
    have hg1 := hgr.keep g1
    refine Gs.rg [1, 3, 4] fun K hK => ?_; simp (maxSteps:=9^7) only [go_sem, hg1, hll]
    refine hK _ _ ?_; clear hK K
    refine Gs.cond rfl (fun h25 => ?_) (fun h25 => ?_)
    · have hlt : i < m.edges.length := Int.ofNat_lt.1 (by simpa using h25)
      have hg := getD_map_lt XEdge.d m.edges i hlt
      rw [XEdge.d] at hg
      have hi0 : (0 : Int) ≤ (i : Int) := by omega
      have hi1 : (i : Int) < (m.edges.length : Int) := by omega
      have hul := nmsTo_len h2 i hi hfe
      have hsu := nmsTo_succ m i hlt
      refine Gs.sk ?_
      refine Gs.sq ?_
      refine Gs.bk ?_
      refine Gs.sq (Gs.rg [1, 3, 4] fun K hK => ?_); simp (maxSteps:=9^7) only [go_sem, hg1, hll, hg, hi0, hi1]
      intro be hbe
      refine hK _ _ ?_; clear hK K
      obtain ⟨hgrp, hle⟩ := hgr.push (x := .arr 6 [XEdge.d m.edges[i]]) hbe
      refine Gs.le (ELe.refl _) hle ?_
      have hbe2 := (hgr.none_of hbe).1
      have hge := (hgrp.keep (sget_self be (.arr 6 [XEdge.d m.edges[i]]) _)).trans (congrArg (fun x => some (AObj.arr 6 [x])) (XEdge.d_eq m.edges[i]))
      have hge0 : sget be ((be, .arr 6 [XEdge.d m.edges[i]]) :: ρ) = some (.arr 6 [D.agg [.slc (m.edges[i].outs.map sD), .slc (m.edges[i].ins.map sD), .slc (m.edges[i].impl.map sD), .slc (m.edges[i].order.map sD), .v (.string m.edges[i].cmd), .v (.string m.edges[i].dep)]]) := sget_self ..
      have l1 : (m.edges[i].outs.map sD).length = m.edges[i].outs.length := List.length_map ..
      have l2 : (m.edges[i].ins.map sD).length = m.edges[i].ins.length := List.length_map ..
      have l3 : (m.edges[i].impl.map sD).length = m.edges[i].impl.length := List.length_map ..
      have l4 : (m.edges[i].order.map sD).length = m.edges[i].order.length := List.length_map ..
      refine Gs.sq (Gs.sq ?_)
      rcases (show (10 < m.edges[i].outs.length) ∨ (m.edges[i].outs.length ≤ 10 ∧ 10 < m.edges[i].ins.length) ∨ (m.edges[i].outs.length ≤ 10 ∧ m.edges[i].ins.length ≤ 10 ∧ 10 < m.edges[i].impl.length) ∨ (m.edges[i].outs.length ≤ 10 ∧ m.edges[i].ins.length ≤ 10 ∧ m.edges[i].impl.length ≤ 10 ∧ 10 < m.edges[i].order.length) ∨ (m.edges[i].outs.length ≤ 10 ∧ m.edges[i].ins.length ≤ 10 ∧ m.edges[i].impl.length ≤ 10 ∧ m.edges[i].order.length ≤ 10 ∧ 300 < m.edges[i].cmd.size) ∨ (m.edges[i].outs.length ≤ 10 ∧ m.edges[i].ins.length ≤ 10 ∧ m.edges[i].impl.length ≤ 10 ∧ m.edges[i].order.length ≤ 10 ∧ m.edges[i].cmd.size ≤ 300 ∧ 200 < m.edges[i].dep.size) ∨ (m.edges[i].outs.length ≤ 10 ∧ m.edges[i].ins.length ≤ 10 ∧ m.edges[i].impl.length ≤ 10 ∧ m.edges[i].order.length ≤ 10 ∧ m.edges[i].cmd.size ≤ 300 ∧ m.edges[i].dep.size ≤ 200) from by omega) with h1 | ⟨h1, h2⟩ | ⟨h1, h2, h3⟩ | ⟨h1, h2, h3, h4⟩ | ⟨h1, h2, h3, h4, h5⟩ | ⟨h1, h2, h3, h4, h5, h6⟩ | ⟨h1, h2, h3, h4, h5, h6⟩
      · have d1 : decide (((m.edges[i].outs.length : Nat) : Int) > 10) = true := decide_eq_true (by omega)
        refine Gs.rg [1, 3, 4, 5] fun K hK => ?_; simp (maxSteps:=9^7) only [go_sem, hge, l1, l2, l3, l4, d1]
        refine hK _ _ ?_; clear hK K
        refine Gs.condT rfl ?_
        refine Gs.sq (Gs.rg [] fun K hK => ?_); simp (maxSteps:=9^7) only [go_sem]
        refine hK _ _ ?_; clear hK K
        refine Gs.ret hC Tryz.func10 (by simp [go_sem]) ?_
        simp only [go_sem]
        first | exact fw1 (by omega) | exact fw2 hlt (by omega) | exact fw3 hltj (by omega) | exact congrArg AEnd.ret (fewB_yes h1 h2 hfe hjs) | skip
      · have d1 : decide (((m.edges[i].outs.length : Nat) : Int) > 10) = false := decide_eq_false (by omega)
        have d2 : decide (((m.edges[i].ins.length : Nat) : Int) > 10) = true := decide_eq_true (by omega)
        refine Gs.rg [1, 3, 4, 5] fun K hK => ?_; simp (maxSteps:=9^7) only [go_sem, hge, l1, l2, l3, l4, d1, d2]
        refine hK _ _ ?_; clear hK K
        refine Gs.condT rfl ?_
        refine Gs.sq (Gs.rg [] fun K hK => ?_); simp (maxSteps:=9^7) only [go_sem]
        refine hK _ _ ?_; clear hK K
        refine Gs.ret hC Tryz.func10 (by simp [go_sem]) ?_
        simp only [go_sem]
        first | exact fw1 (by omega) | exact fw2 hlt (by omega) | exact fw3 hltj (by omega) | exact congrArg AEnd.ret (fewB_yes h1 h2 hfe hjs) | skip
      · have d1 : decide (((m.edges[i].outs.length : Nat) : Int) > 10) = false := decide_eq_false (by omega)
        have d2 : decide (((m.edges[i].ins.length : Nat) : Int) > 10) = false := decide_eq_false (by omega)
        have d3 : decide (((m.edges[i].impl.length : Nat) : Int) > 10) = true := decide_eq_true (by omega)
        refine Gs.rg [1, 3, 4, 5] fun K hK => ?_; simp (maxSteps:=9^7) only [go_sem, hge, l1, l2, l3, l4, d1, d2, d3]
        refine hK _ _ ?_; clear hK K
        refine Gs.condT rfl ?_
        refine Gs.sq (Gs.rg [] fun K hK => ?_); simp (maxSteps:=9^7) only [go_sem]
        refine hK _ _ ?_; clear hK K
        refine Gs.ret hC Tryz.func10 (by simp [go_sem]) ?_
        simp only [go_sem]
        first | exact fw1 (by omega) | exact fw2 hlt (by omega) | exact fw3 hltj (by omega) | exact congrArg AEnd.ret (fewB_yes h1 h2 hfe hjs) | skip
      · have d1 : decide (((m.edges[i].outs.length : Nat) : Int) > 10) = false := decide_eq_false (by omega)
        have d2 : decide (((m.edges[i].ins.length : Nat) : Int) > 10) = false := decide_eq_false (by omega)
        have d3 : decide (((m.edges[i].impl.length : Nat) : Int) > 10) = false := decide_eq_false (by omega)
        have d4 : decide (((m.edges[i].order.length : Nat) : Int) > 10) = true := decide_eq_true (by omega)
        refine Gs.rg [1, 3, 4, 5] fun K hK => ?_; simp (maxSteps:=9^7) only [go_sem, hge, l1, l2, l3, l4, d1, d2, d3, d4]
        refine hK _ _ ?_; clear hK K
        refine Gs.condT rfl ?_
        refine Gs.sq (Gs.rg [] fun K hK => ?_); simp (maxSteps:=9^7) only [go_sem]
        refine hK _ _ ?_; clear hK K
        refine Gs.ret hC Tryz.func10 (by simp [go_sem]) ?_
        simp only [go_sem]
        first | exact fw1 (by omega) | exact fw2 hlt (by omega) | exact fw3 hltj (by omega) | exact congrArg AEnd.ret (fewB_yes h1 h2 hfe hjs) | skip
      · have d1 : decide (((m.edges[i].outs.length : Nat) : Int) > 10) = false := decide_eq_false (by omega)
        have d2 : decide (((m.edges[i].ins.length : Nat) : Int) > 10) = false := decide_eq_false (by omega)
        have d3 : decide (((m.edges[i].impl.length : Nat) : Int) > 10) = false := decide_eq_false (by omega)
        have d4 : decide (((m.edges[i].order.length : Nat) : Int) > 10) = false := decide_eq_false (by omega)
        have d5 : decide (((m.edges[i].cmd.size : Nat) : Int) > 300) = true := decide_eq_true (by omega)
        refine Gs.rg [1, 3, 4, 5] fun K hK => ?_; simp (maxSteps:=9^7) only [go_sem, hge, l1, l2, l3, l4, d1, d2, d3, d4, d5]
        refine hK _ _ ?_; clear hK K
        refine Gs.condT rfl ?_
        refine Gs.sq (Gs.rg [] fun K hK => ?_); simp (maxSteps:=9^7) only [go_sem]
        refine hK _ _ ?_; clear hK K
        refine Gs.ret hC Tryz.func10 (by simp [go_sem]) ?_
        simp only [go_sem]
        first | exact fw1 (by omega) | exact fw2 hlt (by omega) | exact fw3 hltj (by omega) | exact congrArg AEnd.ret (fewB_yes h1 h2 hfe hjs) | skip
      · have d1 : decide (((m.edges[i].outs.length : Nat) : Int) > 10) = false := decide_eq_false (by omega)
        have d2 : decide (((m.edges[i].ins.length : Nat) : Int) > 10) = false := decide_eq_false (by omega)
        have d3 : decide (((m.edges[i].impl.length : Nat) : Int) > 10) = false := decide_eq_false (by omega)
        have d4 : decide (((m.edges[i].order.length : Nat) : Int) > 10) = false := decide_eq_false (by omega)
        have d5 : decide (((m.edges[i].cmd.size : Nat) : Int) > 300) = false := decide_eq_false (by omega)
        have d6 : decide (((m.edges[i].dep.size : Nat) : Int) > 200) = true := decide_eq_true (by omega)
        refine Gs.rg [1, 3, 4, 5] fun K hK => ?_; simp (maxSteps:=9^7) only [go_sem, hge, l1, l2, l3, l4, d1, d2, d3, d4, d5, d6]
        refine hK _ _ ?_; clear hK K
        refine Gs.condT rfl ?_
        refine Gs.sq (Gs.rg [] fun K hK => ?_); simp (maxSteps:=9^7) only [go_sem]
        refine hK _ _ ?_; clear hK K
        refine Gs.ret hC Tryz.func10 (by simp [go_sem]) ?_
        simp only [go_sem]
        first | exact fw1 (by omega) | exact fw2 hlt (by omega) | exact fw3 hltj (by omega) | exact congrArg AEnd.ret (fewB_yes h1 h2 hfe hjs) | skip
      · have d1 : decide (((m.edges[i].outs.length : Nat) : Int) > 10) = false := decide_eq_false (by omega)
        have d2 : decide (((m.edges[i].ins.length : Nat) : Int) > 10) = false := decide_eq_false (by omega)
        have d3 : decide (((m.edges[i].impl.length : Nat) : Int) > 10) = false := decide_eq_false (by omega)
        have d4 : decide (((m.edges[i].order.length : Nat) : Int) > 10) = false := decide_eq_false (by omega)
        have d5 : decide (((m.edges[i].cmd.size : Nat) : Int) > 300) = false := decide_eq_false (by omega)
        have d6 : decide (((m.edges[i].dep.size : Nat) : Int) > 200) = false := decide_eq_false (by omega)
        refine Gs.rg [1, 3, 4, 5] fun K hK => ?_; simp (maxSteps:=9^7) only [go_sem, hge, l1, l2, l3, l4, d1, d2, d3, d4, d5, d6]
        refine hK _ _ ?_; clear hK K
        refine Gs.condF rfl ?_
        refine Gs.sk ?_
        refine Gs.draw [1, 3, 4, 5] [] [be] [] [(0, true), (1, true), (2, true), (4, true), (5, true), (7, true), (8, true), (10, true), (11, true), (3, false), (6, false), (9, false), (12, false), (13, true)] (by kernel_rfl) (by decide) (by kernel_rfl) fun K hK => ?_; simp (maxSteps:=9^7) only [go_sem, hge]
        have z0 : (if o = none then [] else (nmsTo m i).map sD) = (nmsTo m i).map sD := by
          split
          · rename_i h; exact (hgrp.zero h).symm
          · rfl
        have hml : ((nmsTo m i).map sD).length = (nmsTo m i).length := List.length_map ..
        have htk : List.take (nmsTo m i).length ((nmsTo m i).map sD) = (nmsTo m i).map sD := List.take_of_length_le (by omega)
        have hd := hgrp.sdel
        obtain ⟨ρ2, hρ2⟩ : ∃ ρ2, ρ2 = ((be, AObj.arr 6 [m.edges[i].d]) :: ρ) := ⟨_, rfl⟩
        rw [← hρ2] at hd hge hge0 hgrp
        rw [← hρ2]
        simp only [z0, htk, hd]
        refine ⟨⟨by omega, plain_sD _, by omega, by omega⟩, fun ob1 hz1 hf1 => ?_⟩
        have hg1 : GrD ob1 1 ((nmsTo m i).map sD ++ m.edges[i].outs.map sD) ρ2 := ⟨hf1, hz1⟩
        have z1 : (if ob1 = none then [] else (nmsTo m i).map sD ++ m.edges[i].outs.map sD) = (nmsTo m i).map sD ++ m.edges[i].outs.map sD := by
          split
          · rename_i h; exact (hz1 h).symm
          · rfl
        have k1 : List.take ((nmsTo m i).map sD ++ m.edges[i].outs.map sD).length ((nmsTo m i).map sD ++ m.edges[i].outs.map sD) = (nmsTo m i).map sD ++ m.edges[i].outs.map sD := List.take_of_length_le (Nat.le_refl _)
        have y1 : ((nmsTo m i).map sD ++ m.edges[i].outs.map sD).length = (nmsTo m i).length + m.edges[i].outs.length := by simp only [List.length_append, List.length_map]
        simp only [z1, k1, sdelo_cells hf1]
        refine ⟨?_, ⟨Nat.le_refl _, plain_sD _, by omega, by omega⟩, fun ob2 hz2 hf2 => ?_⟩
        · rintro _ rfl
          rw [hg1.keep hge0, hge]
        have hg2 : GrD ob2 1 ((nmsTo m i).map sD ++ m.edges[i].outs.map sD ++ m.edges[i].ins.map sD) ρ2 := ⟨hf2, hz2⟩
        have z2 : (if ob2 = none then [] else (nmsTo m i).map sD ++ m.edges[i].outs.map sD ++ m.edges[i].ins.map sD) = (nmsTo m i).map sD ++ m.edges[i].outs.map sD ++ m.edges[i].ins.map sD := by
          split
          · rename_i h; exact (hz2 h).symm
          · rfl
        have k2 : List.take ((nmsTo m i).map sD ++ m.edges[i].outs.map sD ++ m.edges[i].ins.map sD).length ((nmsTo m i).map sD ++ m.edges[i].outs.map sD ++ m.edges[i].ins.map sD) = (nmsTo m i).map sD ++ m.edges[i].outs.map sD ++ m.edges[i].ins.map sD := List.take_of_length_le (Nat.le_refl _)
        have y2 : ((nmsTo m i).map sD ++ m.edges[i].outs.map sD ++ m.edges[i].ins.map sD).length = (nmsTo m i).length + m.edges[i].outs.length + m.edges[i].ins.length := by simp only [List.length_append, List.length_map]
        simp only [z2, k2, sdelo_cells hf2]
        refine ⟨?_, ⟨Nat.le_refl _, plain_sD _, by omega, by omega⟩, fun ob3 hz3 hf3 => ?_⟩
        · rintro _ rfl
          rw [hg2.keep hge0, hg1.keep hge0]
        have hg3 : GrD ob3 1 ((nmsTo m i).map sD ++ m.edges[i].outs.map sD ++ m.edges[i].ins.map sD ++ m.edges[i].impl.map sD) ρ2 := ⟨hf3, hz3⟩
        have z3 : (if ob3 = none then [] else (nmsTo m i).map sD ++ m.edges[i].outs.map sD ++ m.edges[i].ins.map sD ++ m.edges[i].impl.map sD) = (nmsTo m i).map sD ++ m.edges[i].outs.map sD ++ m.edges[i].ins.map sD ++ m.edges[i].impl.map sD := by
          split
          · rename_i h; exact (hz3 h).symm
          · rfl
        have k3 : List.take ((nmsTo m i).map sD ++ m.edges[i].outs.map sD ++ m.edges[i].ins.map sD ++ m.edges[i].impl.map sD).length ((nmsTo m i).map sD ++ m.edges[i].outs.map sD ++ m.edges[i].ins.map sD ++ m.edges[i].impl.map sD) = (nmsTo m i).map sD ++ m.edges[i].outs.map sD ++ m.edges[i].ins.map sD ++ m.edges[i].impl.map sD := List.take_of_length_le (Nat.le_refl _)
        have y3 : ((nmsTo m i).map sD ++ m.edges[i].outs.map sD ++ m.edges[i].ins.map sD ++ m.edges[i].impl.map sD).length = (nmsTo m i).length + m.edges[i].outs.length + m.edges[i].ins.length + m.edges[i].impl.length := by simp only [List.length_append, List.length_map]
        simp only [z3, k3, sdelo_cells hf3]
        refine ⟨?_, ⟨Nat.le_refl _, plain_sD _, by omega, by omega⟩, fun ob4 hz4 hf4 => ?_⟩
        · rintro _ rfl
          rw [hg3.keep hge0, hg2.keep hge0]
        have hg4 : GrD ob4 1 ((nmsTo m i).map sD ++ m.edges[i].outs.map sD ++ m.edges[i].ins.map sD ++ m.edges[i].impl.map sD ++ m.edges[i].order.map sD) ρ2 := ⟨hf4, hz4⟩
        refine ⟨?_, ?_⟩
        · rintro _ rfl
          rw [hg4.keep hge0, hg3.keep hge0]
        have he4 : (nmsTo m i).map sD ++ m.edges[i].outs.map sD ++ m.edges[i].ins.map sD ++ m.edges[i].impl.map sD ++ m.edges[i].order.map sD = (nmsTo m (i + 1)).map sD := by rw [hsu]; unfold XEdge.all; simp
        rw [he4] at hg4 ⊢
        refine hK _ _ ?_; clear hK K
        subst hρ2
        have hdr := hg4.drop hbe2
        refine Gs.le (ELe.refl _) hdr.2 ?_
        refine Gs.ib ?_
        refine Gs.rg [1, 3, 4] fun K hK => ?_; simp (maxSteps:=9^7) only [go_sem]
        refine hK _ _ ?_; clear hK K
        refine Gs.rebase [1, 3, 4] ?_
        simp only [go_sem]
        rw [wrap_succ i (by omega)]
        refine ih (i + 1) _ _ ⟨ob4, ⟨by omega, hdr.1, fun e he => ?_⟩, by rw [List.length_map], rfl⟩ (by omega)
        rw [List.take_succ_eq_append_getElem hlt] at he
        rcases List.mem_append.1 he with he | he
        · exact hfe e he
        · rw [List.mem_singleton.1 he]
          unfold fewE
          rw [decide_eq_true_eq]
          exact ⟨by omega, by omega, by omega, by omega, by omega, by omega⟩
    · have hie : i = m.edges.length := by
        have h : (m.edges.length : Int) ≤ i := by simpa using h25
        omega
      subst hie
      refine Gs.exit rfl ?_
      refine Gs.sq (Gs.sq ?_)
      refine Gs.rg [3] fun K hK => ?_; simp (maxSteps:=9^7) only [go_sem]
      refine hK _ _ ?_; clear hK K
      refine Gs.bk ?_
      have hnl := nmsTo_len h2 m.edges.length (Nat.le_refl _) hfe
      refine Gs.le (ELe.refl _) (SLe.append_left (cellsOf o 1 ((nmsTo m m.edges.length).map sD)) ρ) ?_
      rw [← List.append_nil (cellsOf o 1 ((nmsTo m m.edges.length).map sD))]
      refine pubSlot2 3 (o := o) (xs := (nmsTo m m.edges.length).map sD) (by rw [List.length_map]; rfl) ⟨fun c hc => rfl, hgr.zero⟩ (fun c hc => PubOK.nil c) (fun c hc p hp hk => ?_) ?_
      · simp only [List.mem_cons, List.not_mem_nil, or_false] at hp
        rcases hp with rfl | rfl <;> first | rfl | exact absurd rfl hk
      simp only [go_sem]
      have hml : ((nmsTo m m.edges.length).map sD).length = (nmsTo m m.edges.length).length := List.length_map ..
      refine Gs.rebase [3, 6] ?_
      simp only [go_sem]
      refine Gs.while (fun (j : Nat) env' σ'' => (j ≤ (nmsTo m m.edges.length).length ∧ ∀ f ∈ (nmsTo m m.edges.length).take j, f.size ≤ 200) ∧ env' = [(3, .slc ((nmsTo m m.edges.length).map sD)), (6, .v (.int .i64 (j : Int)))] ∧ σ'' = []) (fun (j : Nat) => (nmsTo m m.edges.length).length - j) 0 ⟨⟨by omega, by simp⟩, rfl, rfl⟩ ?_
      rintro j env' σ'' ⟨⟨hj, hjs⟩, rfl, rfl⟩ ih
      have ih2 := ih
      refine Gs.sq (Gs.sq ?_)
      refine Gs.rg [3, 6] fun K hK => ?_; simp (maxSteps:=9^7) only [go_sem, hml]
      refine hK _ _ ?_; clear hK K
      refine Gs.cond rfl (fun h83 => ?_) (fun h83 => ?_)
      · have hltj : j < (nmsTo m m.edges.length).length := Int.ofNat_lt.1 (by simpa using h83)
        have hgj := getD_map_lt sD (nmsTo m m.edges.length) j hltj
        rw [sD] at hgj
        have hj0 : (0 : Int) ≤ (j : Int) := by omega
        have hj1 : (j : Int) < ((nmsTo m m.edges.length).length : Int) := by omega
        refine Gs.sk ?_
        refine Gs.sq ?_
        refine Gs.bk ?_
        refine Gs.sq (Gs.rg [3, 6] fun K hK => ?_); simp (maxSteps:=9^7) only [go_sem, hml, hgj, hj0, hj1]
        refine hK _ _ ?_; clear hK K
        refine Gs.cond rfl (fun h91 => ?_) (fun h91 => ?_)
        · have hbig : 200 < (nmsTo m m.edges.length)[j].size := Int.ofNat_lt.1 (by simpa using h91)
          refine Gs.sq (Gs.rg [] fun K hK => ?_); simp (maxSteps:=9^7) only [go_sem]
          refine hK _ _ ?_; clear hK K
          refine Gs.ret hC Tryz.func10 (by simp [go_sem]) ?_
          simp only [go_sem]
          first | exact fw1 (by omega) | exact fw2 hlt (by omega) | exact fw3 hltj (by omega) | exact congrArg AEnd.ret (fewB_yes h1 h2 hfe hjs) | skip
        · have hsml : (nmsTo m m.edges.length)[j].size ≤ 200 := by
            have h : ((nmsTo m m.edges.length)[j].size : Int) ≤ 200 := by simpa using h91
            omega
          refine Gs.sk ?_
          refine Gs.ib ?_
          refine Gs.rg [3, 6] fun K hK => ?_; simp (maxSteps:=9^7) only [go_sem]
          refine hK _ _ ?_; clear hK K
          refine Gs.rebase [3, 6] ?_
          simp only [go_sem]
          rw [wrap_succ j (by omega)]
          refine ih2 (j + 1) _ _ ⟨⟨by omega, fun f hf => ?_⟩, rfl, rfl⟩ (by omega)
          rw [List.take_succ_eq_append_getElem hltj] at hf
          rcases List.mem_append.1 hf with hf | hf
          · exact hjs f hf
          · rw [List.mem_singleton.1 hf]; exact hsml
      · have hje : j = (nmsTo m m.edges.length).length := by
          have h : ((nmsTo m m.edges.length).length : Int) ≤ j := by simpa using h83
          omega
        subst hje
        refine Gs.exit rfl ?_
        refine Gs.sq (Gs.rg [] fun K hK => ?_); simp (maxSteps:=9^7) only [go_sem]
        refine hK _ _ ?_; clear hK K
        refine Gs.ret hC Tryz.func10 (by simp [go_sem]) ?_
        simp only [go_sem]
        first | exact fw1 (by omega) | exact fw2 hlt (by omega) | exact fw3 hltj (by omega) | exact congrArg AEnd.ret (fewB_yes h1 h2 hfe hjs) | skip
theorem of_own (l : List XFile) (σ : Store) (hl : l.length < 2 ^ 20) (hb : ∀ f ∈ l, f.b.length < 2 ^ 20) :
    AC Tryz.prog 14 [.slc (l.map XFile.d)] σ (fun e σ' => ∃ o, GrD o 2 (l.map XFile.d) σ ∧ e = .ret (.own o 2 l.length) ∧ σ' = cellsOf o 2 (l.map XFile.d) ++ σ) := by
  have hll : (l.map XFile.d).length = l.length := List.length_map ..
  refine AC.of_body Tryz.func14 rfl Tryz.ntmps14 (by simp) fun C hC => ?_
  refine Gs.sq (Gs.rg [0] fun K hK => ?_); simp (maxSteps:=9^7) only [go_sem]
  refine hK _ _ ?_; clear hK K
  refine Gs.sq (Gs.rg [0] fun K hK => ?_); simp (maxSteps:=9^7) only [go_sem]
  refine hK _ _ ?_; clear hK K
  refine Gs.sq (Gs.sq ?_)
  refine Gs.rg [0, 3] fun K hK => ?_; simp (maxSteps:=9^7) only [go_sem]
  refine hK _ _ ?_; clear hK K
  refine Gs.bk ?_
  refine Gs.nilOwn 3 2 rfl ?_
  refine Gs.rebase [0, 3, 4] ?_
  simp only [go_sem]
  refine Gs.while (fun (i : Nat) env' σ'' => ∃ o : Option Nat, (i ≤ l.length ∧ GrD o 2 ((l.take i).map XFile.d) σ) ∧ env' = [(0, .slc (l.map XFile.d)), (3, .own o 2 i), (4, .v (.int .i64 (i : Int)))] ∧ σ'' = cellsOf o 2 ((l.take i).map XFile.d) ++ σ) (fun (i : Nat) => l.length - i) 0 ⟨none, ⟨by omega, GrD.nil _ _⟩, rfl, rfl⟩ ?_
  rintro i env' σ'' ⟨o, ⟨hi, hgr⟩, rfl, rfl⟩ ih
  have ih1 := ih
  refine Gs.sq (Gs.sq ?_)
  refine Gs.rg [0, 3, 4] fun K hK => ?_; simp (maxSteps:=9^7) only [go_sem, hll]
  refine hK _ _ ?_; clear hK K
  refine Gs.cond rfl (fun h8 => ?_) (fun h8 => ?_)
  · have hlt : i < l.length := Int.ofNat_lt.1 (by simpa using h8)
    have hg := getD_map_lt XFile.d l i hlt
    rw [XFile.d] at hg
    have hi0 : (0 : Int) ≤ (i : Int) := by omega
    have hi1 : (i : Int) < (l.length : Int) := by omega
    have hbl : (l[i].b.map bD).length = l[i].b.length := List.length_map ..
    have hb1 := hb _ (List.getElem_mem hlt)
    have ho := hgr.oget
    have hd := hgr.sdel
    have hml : ((l.take i).map XFile.d).length = i := by rw [List.length_map, List.length_take]; omega
    have htk : List.take i ((l.take i).map XFile.d) = (l.take i).map XFile.d := List.take_of_length_le (by omega)
    have e1 : (l.take i).map XFile.d ++ [D.agg [.v (.string l[i].name), .slc (l[i].b.map bD)]] = (l.take (i + 1)).map XFile.d := by
      rw [List.take_succ_eq_append_getElem hlt, List.map_append]; rfl
    refine Gs.sk ?_
    refine Gs.sq ?_
    refine Gs.bk ?_
    refine Gs.draw [0, 3, 4] [17, 23, 25] [] [] [(0, true), (1, true), (2, true), (3, true), (4, true), (5, true), (6, true), (7, true), (8, true), (9, true), (10, true), (11, true), (12, true), (13, true), (14, true), (15, false), (16, true)] (by kernel_rfl) (by decide) (by kernel_rfl) fun K hK => ?_; simp (maxSteps:=9^7) only [go_sem, hll, hg, hi0, hi1, ho, hd, hml, htk]
    refine ⟨⟨fun y hy => ?_, by omega, by omega⟩, ⟨by decide, by decide⟩, ⟨Nat.le_refl _, fun y hy => by rw [hy]; exact ⟨rfl, rfl⟩, by omega, by omega⟩, fun ob hz hf => ?_⟩
    · obtain ⟨x, _, rfl⟩ := List.mem_map.1 hy
      exact ⟨rfl, rfl⟩
    rw [e1] at hz ⊢
    have hm2 : ((l.take (i + 1)).map XFile.d).length = i + 1 := by rw [List.length_map, List.length_take]; omega
    rw [hm2]
    refine hK _ _ ?_; clear hK K
    refine Gs.ib ?_
    refine Gs.rg [0, 3, 4] fun K hK => ?_; simp (maxSteps:=9^7) only [go_sem]
    refine hK _ _ ?_; clear hK K
    refine Gs.rebase [0, 3, 4] ?_
    simp only [go_sem]
    rw [wrap_succ i (by omega)]
    exact ih (i + 1) _ _ ⟨ob, ⟨by omega, ⟨hf, hz⟩⟩, rfl, rfl⟩ (by omega)
  · have hie : i = l.length := by
      have h : (l.length : Int) ≤ i := by simpa using h8
      omega
    subst hie
    rw [List.take_length] at hgr ⊢
    refine Gs.exit rfl ?_
    refine Gs.sq (Gs.rg [3] fun K hK => ?_); simp (maxSteps:=9^7) only [go_sem]
    refine hK _ _ ?_; clear hK K
    refine Gs.ret hC Tryz.func14 (by simp [go_sem]) ?_
    simp only [go_sem]
    exact ⟨o, hgr, rfl, rfl⟩
theorem of_calls (l : List XFile) (σ : Store) (hl : l.length < 2 ^ 20) (hb : ∀ f ∈ l, f.b.length < 2 ^ 20) :
    AC Tryz.prog 14 [.slc (l.map XFile.d)] σ (fun e σ' => e = .ret (.slc (l.map XFile.d)) ∧ σ' = σ) := by
  refine AC.pubOwn (sz := 2) ((of_own l [] hl hb).mono ?_) σ
  rintro e σ' ⟨o, hgr, rfl, rfl⟩
  exact ⟨o, hgr, by rw [List.length_map], rfl⟩
theorem Gs.pubCell {P : Program} {N : Slots} {C : Ctx P N} {todo : List Item} {env : Env} {o : Option Nat} {b sz n : Nat} {xs : List D} {y : D} {ρ : Store} (hgr : GrD o sz xs ((b, .arr 2 [.agg [.own o sz n, y]]) :: ρ)) (hn : n = xs.length) (hy : ∀ c, D.pub c sz xs y = y) (hρ : ∀ c, o = some c → PubOK c ρ) (he : ∀ c, epub c sz xs env = env)
    (h : Gs C todo env ((b, .arr 2 [.agg [.slc xs, y]]) :: ρ)) : Gs C todo env (cellsOf o sz xs ++ (b, .arr 2 [.agg [.own o sz n, y]]) :: ρ) := by
  subst hn
  cases o with
  | none =>
    have hx := hgr.zero rfl
    subst hx
    refine Gs.row_le (ys := [.agg [.slc [], y]]) (fun w S vs h => by
      obtain ⟨v, vs, rfl, h1, h2⟩ := RepL.cons_inv (show RepL w S (.own none sz 0 :: [y]) vs from h)
      exact .cons (DLe.own_slc _ _ w S v h1) h2) (by intro z hz; simp only [List.mem_singleton] at hz; subst hz; rfl) h
  | some c =>
    have hf := hgr.fresh c rfl
    have hne : c ≠ b := fun e => by subst e; rw [sget_self] at hf; cases hf
    refine Gs.publish c (sget_self c _ _) ?_
    rw [he c]
    have e1 : spub c sz xs ((c, AObj.arr sz xs) :: (b, .arr 2 [.agg [.own (some c) sz xs.length, y]]) :: ρ) = (b, .arr 2 [.agg [.slc xs, y]]) :: ρ := by
      rw [spub, if_pos rfl, spub, if_neg hne, hρ c rfl]
      simp only [AObj.pub, List.map_cons, List.map_nil, D.pub, pubs, hy c]
      rw [if_pos ⟨trivial, trivial, Nat.le_refl _⟩, List.take_length]
    change Gs C todo env (spub c sz xs ((c, AObj.arr sz xs) :: (b, .arr 2 [.agg [.own (some c) sz xs.length, y]]) :: ρ))
    rw [e1]
    exact h
theorem given_calls (m : XMan) (σ : Store) (hl : m.edges.length < 2 ^ 20) (hd : m.defs.length < 2 ^ 20) (hs : ∀ e ∈ m.edges, e.small) :
    AC Tryz.prog 13 [m.d] σ (fun e σ' => e = .ret m.d ∧ σ' = σ) := by
  refine AC.still ?_ σ
  refine AC.forget (R := fun e _ => e = .ret m.d) ?_ fun e σ' h => ⟨[], SLe.nil _, h, rfl⟩
  unfold XMan.d
  have hll : (m.edges.map XEdge.d).length = m.edges.length := List.length_map ..
  have hdl : (m.defs.map sD).length = m.defs.length := List.length_map ..
  refine AC.of_body Tryz.func13 rfl Tryz.ntmps13 (by simp) fun C hC => ?_
  refine Gs.sq (Gs.rg [0] fun K hK => ?_); simp (maxSteps:=9^7) only [go_sem]
  intro b1 b2 hb2
  have h12 : b1 ≠ b2 := fun e => by subst e; rw [sget_self] at hb2; cases hb2
  refine hK _ _ ?_; clear hK K
  have g1 : sget b1 [(b2, AObj.arr 2 [D.agg [.v (.slice none 0 0), .v (.slice none 0 0)]]), (b1, AObj.arr 2 [D.agg [.slc (m.edges.map XEdge.d), .slc (m.defs.map sD)]])] = some (.arr 2 [D.agg [.slc (m.edges.map XEdge.d), .slc (m.defs.map sD)]]) := by rw [sget_cons, if_neg h12, sget_self]
  refine Gs.sq ?_
  refine Gs.regionM [1, 2] [6, 9] fun K hK => ?_; simp (maxSteps:=9^7) only [go_sem, g1]
  refine ⟨⟨plain_sD _, by omega, by omega⟩, fun b3 hb3 => ?_⟩
  have h13 : b1 ≠ b3 := fun e => by subst e; rw [g1] at hb3; cases hb3
  have h23 : b2 ≠ b3 := fun e => by subst e; rw [sget_self] at hb3; cases hb3
  refine hK _ _ ?_; clear hK K
  refine Gs.sq (Gs.sq ?_)
  refine Gs.rg [1, 2, 3] fun K hK => ?_; simp (maxSteps:=9^7) only [go_sem]
  refine hK _ _ ?_; clear hK K
  refine Gs.bk ?_
  refine Gs.row_le (ys := [.agg [.own none 6 0, .slc (m.defs.map sD)]]) (fun w S vs h => by
    obtain ⟨v, vs, rfl, h1, h2⟩ := RepL.cons_inv (show RepL w S (.v (.slice none 0 0) :: [.slc (m.defs.map sD)]) vs from h)
    exact .cons (DLe.nil_own 6 w S v h1) h2) (by simp [D.cells]) ?_
  obtain ⟨ρ, hρ⟩ : ∃ ρ : Store, ρ = [(b2, AObj.arr 2 [D.agg [.v (.slice none 0 0), .v (.slice none 0 0)]]), (b1, AObj.arr 2 [D.agg [.slc (m.edges.map XEdge.d), .slc (m.defs.map sD)]])] := ⟨_, rfl⟩
  rw [← hρ] at g1 hb3 ⊢
  have gd : ∀ o i, sget b1 ((b3, AObj.arr 2 [D.agg [.own o 6 i, .slc (m.defs.map sD)]]) :: ρ) = some (.arr 2 [D.agg [.slc (m.edges.map XEdge.d), .slc (m.defs.map sD)]]) := fun o i => by rw [sget_cons, if_neg h13, g1]
  refine Gs.rebase [1, 2, 3, 4] ?_
  simp only [go_sem]
  refine Gs.while (fun (i : Nat) env' σ'' => ∃ o : Option Nat, (i ≤ m.edges.length ∧ GrD o 6 ((m.edges.take i).map XEdge.d) ((b3, AObj.arr 2 [D.agg [.own o 6 i, .slc (m.defs.map sD)]]) :: ρ)) ∧ env' = [(1, .ptr b1 2 0 0), (2, .ptr b2 2 0 0), (3, .ptr b3 2 0 0), (4, .v (.int .i64 (i : Int)))] ∧ σ'' = cellsOf o 6 ((m.edges.take i).map XEdge.d) ++ (b3, AObj.arr 2 [D.agg [.own o 6 i, .slc (m.defs.map sD)]]) :: ρ) (fun (i : Nat) => m.edges.length - i) 0 ⟨none, ⟨by omega, GrD.nil _ _⟩, rfl, rfl⟩ ?_
  rintro i env' σ'' ⟨o, ⟨hi, hgr⟩, rfl, rfl⟩ ih
  have ih1 := ih
  refine Gs.sq (Gs.sq ?_)
  have g1i := hgr.keep (gd o i)
  refine Gs.rg [1, 2, 3, 4] fun K hK => ?_; simp (maxSteps:=9^7) only [go_sem, g1i, hll]
  refine hK _ _ ?_; clear hK K
  refine Gs.cond rfl (fun h15 => ?_) (fun h15 => ?_)
  · have hlt : i < m.edges.length := Int.ofNat_lt.1 (by simpa using h15)
    have hg := getD_map_lt XEdge.d m.edges i hlt
    rw [XEdge.d] at hg
    have hi0 : (0 : Int) ≤ (i : Int) := by omega
    have hi1 : (i : Int) < (m.edges.length : Int) := by omega
    have hsm := hs _ (List.getElem_mem hlt)
    refine Gs.sk ?_
    refine Gs.sq ?_
    refine Gs.bk ?_
    refine Gs.sq (Gs.rg [1, 2, 3, 4] fun K hK => ?_); simp (maxSteps:=9^7) only [go_sem, g1i, hll, hg, hi0, hi1]
    intro b5 hb5
    refine hK _ _ ?_; clear hK K
    obtain ⟨hgrp, hle⟩ := hgr.push (x := .arr 6 [XEdge.d m.edges[i]]) hb5
    refine Gs.le (ELe.refl _) hle ?_
    have hb52 := (hgr.none_of hb5).1
    have h53 : b3 ≠ b5 := fun e => by subst e; rw [sget_self] at hb52; cases hb52
    have hge := (hgrp.keep (sget_self b5 (.arr 6 [XEdge.d m.edges[i]]) _)).trans (congrArg (fun x => some (AObj.arr 6 [x])) (XEdge.d_eq m.edges[i]))
    have hg3 := hgrp.keep (show sget b3 ((b5, .arr 6 [XEdge.d m.edges[i]]) :: (b3, AObj.arr 2 [D.agg [.own o 6 i, .slc (m.defs.map sD)]]) :: ρ) = some (AObj.arr 2 [D.agg [.own o 6 i, .slc (m.defs.map sD)]]) by rw [sget_cons, if_neg h53, sget_self])
    have ho := hgrp.oget
    have hd := hgrp.sdel
    have hml : ((m.edges.take i).map XEdge.d).length = i := by rw [List.length_map, List.length_take]; omega
    have htk : List.take i ((m.edges.take i).map XEdge.d) = (m.edges.take i).map XEdge.d := List.take_of_length_le (by omega)
    have l1 : (m.edges[i].outs.map sD).length = m.edges[i].outs.length := List.length_map ..
    have l2 : (m.edges[i].ins.map sD).length = m.edges[i].ins.length := List.length_map ..
    have l3 : (m.edges[i].impl.map sD).length = m.edges[i].impl.length := List.length_map ..
    have l4 : (m.edges[i].order.map sD).length = m.edges[i].order.length := List.length_map ..
    refine Gs.draw [1, 2, 3, 4, 5] [25, 28, 29, 32, 33, 36, 37, 40, 46] [b3, b5] [26] [(0, true), (1, true), (2, true), (3, true), (4, true), (5, true), (6, true), (7, true), (8, true), (9, true), (10, true), (11, true), (12, true), (13, true), (14, true), (15, true), (16, true), (17, true), (18, true), (19, true), (20, true), (21, true), (22, true), (23, true), (24, false), (25, true), (26, false)] (by kernel_rfl) (by decide) (by kernel_rfl) fun K hK => ?_; simp (maxSteps:=9^7) only [go_sem, hge, hg3, ho, hd, hml, htk]
    have q1 := hsm.outs
    have q2 := hsm.ins
    have q3 := hsm.impl
    have q4 := hsm.order
    refine ⟨⟨plain_sD _, by omega, by omega⟩, ⟨plain_sD _, by omega, by omega⟩, ⟨plain_sD _, by omega, by omega⟩, ⟨plain_sD _, by omega, by omega⟩, ⟨by decide, by decide⟩, ⟨Nat.le_refl _, fun y hy => by rw [hy]; exact ⟨rfl, rfl⟩, by omega, by omega⟩, fun ob hz hf => ?_⟩
    have e1 : (m.edges.take i).map XEdge.d ++ [D.agg [.slc (m.edges[i].outs.map sD), .slc (m.edges[i].ins.map sD), .slc (m.edges[i].impl.map sD), .slc (m.edges[i].order.map sD), .v (.string m.edges[i].cmd), .v (.string m.edges[i].dep)]] = (m.edges.take (i + 1)).map XEdge.d := by
      rw [List.take_succ_eq_append_getElem hlt, List.map_append]; rfl
    rw [e1] at hz ⊢
    have hgr2 : GrD ob 6 ((m.edges.take (i + 1)).map XEdge.d) ((b5, .arr 6 [XEdge.d m.edges[i]]) :: (b3, AObj.arr 2 [D.agg [.own o 6 i, .slc (m.defs.map sD)]]) :: ρ) := ⟨hf, hz⟩
    have g53 : sget b3 ((b5, AObj.arr 6 [XEdge.d m.edges[i]]) :: (b3, AObj.arr 2 [D.agg [.own o 6 i, .slc (m.defs.map sD)]]) :: ρ) = some (AObj.arr 2 [D.agg [.own o 6 i, .slc (m.defs.map sD)]]) := by rw [sget_cons, if_neg h53, sget_self]
    have g55 : sget b5 ((b5, AObj.arr 6 [XEdge.d m.edges[i]]) :: (b3, AObj.arr 2 [D.agg [.own o 6 i, .slc (m.defs.map sD)]]) :: ρ) = some (.arr 6 [XEdge.d m.edges[i]]) := sget_self ..
    refine ⟨?_, ?_⟩
    · rintro b (rfl | rfl)
      · rw [hgr2.keep g53, hg3]
      · rw [hgr2.keep g55, hgrp.keep g55]
    have hg32 := hgr2.keep g53
    have hm2 : ((m.edges.take (i + 1)).map XEdge.d).length = i + 1 := by rw [List.length_map, List.length_take]; omega
    simp only [go_sem, hg32, hm2]
    have hss : sset b3 (AObj.arr 2 [D.agg [.own ob 6 (i + 1), .slc (m.defs.map sD)]]) (cellsOf ob 6 ((m.edges.take (i + 1)).map XEdge.d) ++ (b5, .arr 6 [XEdge.d m.edges[i]]) :: (b3, AObj.arr 2 [D.agg [.own o 6 i, .slc (m.defs.map sD)]]) :: ρ) = cellsOf ob 6 ((m.edges.take (i + 1)).map XEdge.d) ++ (b5, .arr 6 [XEdge.d m.edges[i]]) :: (b3, AObj.arr 2 [D.agg [.own ob 6 (i + 1), .slc (m.defs.map sD)]]) :: ρ := by
      rw [hgr2.sset (by rw [g53]; rfl)]
      rw [sset, if_neg h53, sset_self]
    rw [hss]
    have hgr3 : GrD ob 6 ((m.edges.take (i + 1)).map XEdge.d) ((b5, .arr 6 [XEdge.d m.edges[i]]) :: (b3, AObj.arr 2 [D.agg [.own ob 6 (i + 1), .slc (m.defs.map sD)]]) :: ρ) := ⟨fun c hc => by
      have := hf c hc
      rw [sget_cons] at this ⊢
      split at this
      · cases this
      · rename_i hn
        rw [if_neg hn]
        rw [sget_cons] at this ⊢
        split at this
        · cases this
        · rename_i hn2; rw [if_neg hn2]; exact this, hz⟩
    have hdr := hgr3.drop (by rw [sget_cons, if_neg (Ne.symm h53)]; rw [sget_cons, if_neg (Ne.symm h53)] at hb52; exact hb52)
    refine hK _ _ ?_; clear hK K
    refine Gs.le (ELe.refl _) hdr.2 ?_
    refine Gs.ib ?_
    refine Gs.rg [1, 2, 3, 4] fun K hK => ?_; simp (maxSteps:=9^7) only [go_sem]
    refine hK _ _ ?_; clear hK K
    refine Gs.rebase [1, 2, 3, 4] ?_
    simp only [go_sem]
    rw [wrap_succ i (by omega)]
    exact ih (i + 1) _ _ ⟨ob, ⟨by omega, hdr.1⟩, rfl, rfl⟩ (by omega)
  · have hie : i = m.edges.length := by
      have h : (m.edges.length : Int) ≤ i := by simpa using h15
      omega
    subst hie
    rw [List.take_length] at hgr ⊢
    refine Gs.pubCell hgr hll.symm (fun c => rfl) (fun c hc => ?_) (fun c => rfl) ?_
    · have hf := hgr.fresh c hc
      obtain ⟨_, hf⟩ := sget_none hf
      rw [hρ] at hf ⊢
      obtain ⟨n2, hf⟩ := sget_none hf
      obtain ⟨n1, hf⟩ := sget_none hf
      exact .cons n2 (fun _ _ => rfl) (.cons n1 (fun _ _ => rfl) (.nil c))
    subst hρ
    refine Gs.exit rfl ?_
    refine Gs.sq (Gs.rg [2, 3] fun K hK => ?_); simp (maxSteps:=9^7) only [go_sem, h23, h23.symm]
    refine hK _ _ ?_; clear hK K
    refine Gs.le (ELe.refl _) (σ' := [(b2, AObj.arr 2 [D.agg [.slc (m.edges.map XEdge.d), .slc (m.defs.map sD)]])]) (SLe.cons (by rw [sget_cons, if_neg h23, sget_self]) (SLe.nil _)) ?_
    refine Gs.ret hC Tryz.func13 (by simp [go_sem]) ?_
    simp only [go_sem]
end Go.Ab.S16
namespace Go.Ab.S16
open Go Go.Proofs
theorem list_of {α : Type} {f : α → D} : ∀ {xs : List D}, (∀ x ∈ xs, ∃ a, x = f a) → ∃ l : List α, xs = l.map f
  | [], _ => ⟨[], rfl⟩
  | x :: xs, h => by
    obtain ⟨a, ha⟩ := h x (by simp)
    obtain ⟨l, hl⟩ := list_of (f := f) (xs := xs) fun y hy => h y (by simp [hy])
    exact ⟨a :: l, by rw [ha, hl]; rfl⟩
theorem wt_strs {ds : List D} (h : WT (.slice .str) ds) : ∃ l : List ByteArray, ds = [.slc (l.map sD)] := by
  unfold WT at h
  obtain ⟨xs, rfl, _, h⟩ := h
  obtain ⟨l, rfl⟩ := list_of (f := sD) (xs := xs) fun x hx => by
    obtain ⟨h1, _, h3⟩ := h x hx
    rw [h1 rfl] at h3
    unfold WT at h3
    obtain ⟨n, hn, _⟩ := h3
    cases hn
    exact ⟨n, rfl⟩
  exact ⟨l, rfl⟩
theorem wt_str {ds : List D} (h : WT .str ds) : ∃ s : ByteArray, ds = [.v (.string s)] := by
  unfold WT at h
  obtain ⟨s, rfl, _⟩ := h
  exact ⟨s, rfl⟩
def edgeT : Tp := .struct [.slice .str, .slice .str, .slice .str, .slice .str, .str, .str]
def manT : Tp := .struct [.slice edgeT, .slice .str]
theorem wt_edge {cs : List D} (h : WT edgeT cs) : ∃ e : XEdge, D.agg cs = e.d := by
  unfold edgeT WT at h
  obtain ⟨a0, r0, rfl, h0, r⟩ := h
  obtain ⟨a1, r1, rfl, h1, r⟩ := r
  obtain ⟨a2, r2, rfl, h2, r⟩ := r
  obtain ⟨a3, r3, rfl, h3, r⟩ := r
  obtain ⟨a4, r4, rfl, h4, r⟩ := r
  obtain ⟨a5, r5, rfl, h5, r⟩ := r
  unfold WTs at r
  subst r
  obtain ⟨l0, rfl⟩ := wt_strs h0
  obtain ⟨l1, rfl⟩ := wt_strs h1
  obtain ⟨l2, rfl⟩ := wt_strs h2
  obtain ⟨l3, rfl⟩ := wt_strs h3
  obtain ⟨s4, rfl⟩ := wt_str h4
  obtain ⟨s5, rfl⟩ := wt_str h5
  exact ⟨⟨l0, l1, l2, l3, s4, s5⟩, rfl⟩
theorem wt_edges {ds : List D} (h : WT (.slice edgeT) ds) : ∃ l : List XEdge, ds = [.slc (l.map XEdge.d)] := by
  unfold WT at h
  obtain ⟨xs, rfl, _, hh⟩ := h
  obtain ⟨l, rfl⟩ := list_of (f := XEdge.d) (xs := xs) fun x hx => by
    obtain ⟨_, h2, h3⟩ := hh x hx
    obtain ⟨cs, rfl⟩ := h2 rfl
    exact wt_edge h3
  exact ⟨l, rfl⟩
theorem wt_man {d : D} (h : WTv manT d) : ∃ m : XMan, d = m.d := by
  obtain ⟨cs, rfl, hw⟩ := h.2 rfl
  unfold manT WT at hw
  obtain ⟨a0, r0, h0e, h0, r⟩ := hw
  obtain ⟨a1, r1, rfl, h1, r⟩ := r
  unfold WTs at r
  subst r
  obtain ⟨l0, rfl⟩ := wt_edges h0
  obtain ⟨l1, rfl⟩ := wt_strs h1
  exact ⟨⟨l0, l1⟩, by rw [h0e]; rfl⟩
end Go.Ab.S16
namespace Go.Ab.S16
open Go Go.Proofs Go.RowKit
set_option maxRecDepth 4000 in
set_option maxHeartbeats 1600000 in
theorem sthere_true (m : XMan) (n : Int) (f : ByteArray) (σ : Store) :
    AC Tryz.prog 4 [m.d, .v (.int .i64 n), .v (.string f)] σ (fun e σ' => e = .ret (.v (.bool true)) ∧ σ' = σ) := by
  refine AC.still ?_ σ
  refine AC.forget (R := fun e _ => e = .ret (.v (.bool true))) ?_ fun e σ' h => ⟨[], SLe.nil _, h, rfl⟩
  have hmd : m.d = .agg [.slc (m.edges.map XEdge.d), .slc (m.defs.map sD)] := rfl
  have hll : (m.edges.map XEdge.d).length = m.edges.length := List.length_map ..
  refine AC.of_body Tryz.func4 rfl Tryz.ntmps4 (by simp) fun C hC => ?_
  rw [hmd]
  refine Gs.sq (Gs.rg [0, 1, 2] fun K hK => ?_); simp (maxSteps:=9^7) only [go_sem]
  intro b1
  refine hK _ _ ?_; clear hK K
  have g1 : sget b1 [(b1, AObj.arr 2 [D.agg [.slc (m.edges.map XEdge.d), .slc (m.defs.map sD)]])] = some (.arr 2 [D.agg [.slc (m.edges.map XEdge.d), .slc (m.defs.map sD)]]) := by rw [sget_self]
  refine Gs.sq (Gs.sq ?_)
  rcases (show fewB m = false ∨ (fewB m = true ∧ 200 < f.size) ∨ (fewB m = true ∧ f.size ≤ 200) from by cases fewB m <;> simp <;> omega) with h1 | ⟨h1, h2⟩ | ⟨h1, h2⟩
  · refine Gs.rg [1, 2, 3] fun K hK => ?_; simp (maxSteps:=9^7) only [go_sem, g1]
    refine ⟨_, Tryz.call10, (few_calls m _).mono ?_⟩
    rintro e σ1 ⟨rfl, rfl⟩
    simp only [go_sem, h1, Bool.not_false]
    refine hK _ _ ?_; clear hK K
    refine Gs.condT rfl ?_
    refine Gs.sq (Gs.rg [] fun K hK => ?_); simp (maxSteps:=9^7) only [go_sem]
    refine hK _ _ ?_; clear hK K
    refine Gs.ret hC Tryz.func4 (by simp [go_sem]) ?_
    simp only [go_sem]
  · have d1 : decide (((f.size : Nat) : Int) > 200) = true := decide_eq_true (by omega)
    refine Gs.rg [1, 2, 3] fun K hK => ?_; simp (maxSteps:=9^7) only [go_sem, g1]
    refine ⟨_, Tryz.call10, (few_calls m _).mono ?_⟩
    rintro e σ1 ⟨rfl, rfl⟩
    simp only [go_sem, h1, Bool.not_true, d1]
    refine hK _ _ ?_; clear hK K
    refine Gs.condT rfl ?_
    refine Gs.sq (Gs.rg [] fun K hK => ?_); simp (maxSteps:=9^7) only [go_sem]
    refine hK _ _ ?_; clear hK K
    refine Gs.ret hC Tryz.func4 (by simp [go_sem]) ?_
    simp only [go_sem]
  · have d1 : decide (((f.size : Nat) : Int) > 200) = false := decide_eq_false (by omega)
    refine Gs.rg [1, 2, 3] fun K hK => ?_; simp (maxSteps:=9^7) only [go_sem, g1]
    refine ⟨_, Tryz.call10, (few_calls m _).mono ?_⟩
    rintro e σ1 ⟨rfl, rfl⟩
    simp only [go_sem, h1, Bool.not_true, d1]
    refine hK _ _ ?_; clear hK K
    refine Gs.condF rfl ?_
    refine Gs.sk ?_
    refine Gs.sq (Gs.sq ?_)
    have hml := few_len h1
    have hsm : ∀ e ∈ m.edges, e.small := fun e he => (fewE_small (few_edge h1 e he)).1
    have hnm : ∀ e ∈ m.edges, ∀ x ∈ e.all, x.size ≤ 200 := fun e he x hx => few_names h1 x (by
      unfold nmsTo
      rw [List.take_length]
      exact List.mem_append.2 (.inr (List.mem_flatMap.2 ⟨e, he, hx⟩)))
    have cg := fun σ => given_calls m σ (by omega) (by omega) hsm
    have cn := fun σ => new_calls m (by omega) hsm (by omega) σ
    refine Gs.rg [1, 2, 3] fun K hK => ?_; simp (maxSteps:=9^7) only [go_sem]
    refine ⟨_, Tryz.call18, (own_calls f _ (by omega)).mono ?_⟩
    rintro e σ1 ⟨rfl, rfl⟩
    simp only [go_sem]
    refine ⟨_, Tryz.call19, (refOwn_calls f _).mono ?_⟩
    rintro e σ1 ⟨rfl, rfl⟩
    simp only [go_sem, own_same, bne_self_eq_false]
    refine hK _ _ ?_; clear hK K
    refine Gs.condF rfl ?_
    refine Gs.sk ?_
    refine Gs.sq ?_
    rcases hg : newG m with c | g
    · refine Gs.rg [1, 2, 3] fun K hK => ?_; simp (maxSteps:=9^7) only [go_sem, g1]
      refine ⟨_, Tryz.call13, (cg _).mono ?_⟩
      rintro e σ1 ⟨rfl, rfl⟩
      simp only [go_sem]
      refine ⟨_, Tryz.call20, (show AC _ _ [m.d] _ (fun e σ' => e = .ret (.tup [.v (.pointer none), .v (.int .i64 (c : Int))]) ∧ σ' = _) from by have := cn [(b1, AObj.arr 2 [D.agg [.slc (m.edges.map XEdge.d), .slc (m.defs.map sD)]])]; rw [hg] at this; exact this).mono ?_⟩
      rintro e σ1 ⟨rfl, rfl⟩
      simp only [go_sem]
      refine hK _ _ ?_; clear hK K
      refine Gs.sq (Gs.sq ?_)
      have hc0 : ((c : Int) != 0) = true := by have := newG_pos hg; rw [bne_iff_ne]; omega
      have hw := (newG_wrong hsm).1 c hg
      refine Gs.rg [1, 2, 3, 7, 8] fun K hK => ?_; simp (maxSteps:=9^7) only [go_sem, hc0]
      refine hK _ _ ?_; clear hK K
      refine Gs.condT rfl ?_
      refine Gs.sq (Gs.rg [3] fun K hK => ?_); simp (maxSteps:=9^7) only [go_sem, g1, hc0]
      refine ⟨_, Tryz.call21, (wrong13_calls m _ (by omega) hsm).mono ?_⟩
      rintro e σ1 ⟨rfl, rfl⟩
      simp only [go_sem, hw, hc0]
      refine ⟨_, Tryz.call17, (awake_calls _).mono ?_⟩
      rintro e σ1 ⟨rfl, rfl⟩
      simp only [go_sem]
      refine hK _ _ ?_; clear hK K
      refine Gs.ret hC Tryz.func4 (by simp [go_sem]) ?_
      simp only [go_sem]
    · refine Gs.rg [1, 2, 3] fun K hK => ?_; simp (maxSteps:=9^7) only [go_sem, g1]
      refine ⟨_, Tryz.call13, (cg _).mono ?_⟩
      rintro e σ1 ⟨rfl, rfl⟩
      simp only [go_sem]
      refine ⟨_, Tryz.call20, (show AC _ _ [m.d] _ (fun e σ' => ∃ mb, sget mb _ = none ∧ e = .ret (.tup [g.d mb, .v (.int .i64 0)]) ∧ σ' = (mb, .mp (mkE g.mks)) :: _) from by have := cn [(b1, AObj.arr 2 [D.agg [.slc (m.edges.map XEdge.d), .slc (m.defs.map sD)]])]; rw [hg] at this; exact this).mono ?_⟩
      rintro e σ1 ⟨mb, hmb, rfl, rfl⟩
      simp only [go_sem, XGr.d]
      refine hK _ _ ?_; clear hK K
      refine Gs.sq (Gs.sq ?_)
      refine Gs.rg [1, 2, 3, 7, 8] fun K hK => ?_; simp (maxSteps:=9^7) only [go_sem, bne_self_eq_false]
      refine hK _ _ ?_; clear hK K
      refine Gs.condF rfl ?_
      refine Gs.sk ?_
      refine Gs.sq ?_
      obtain ⟨hok, hgm⟩ := newG_ok (by omega) hsm (by omega) (fun e he x hx => by have := hnm e he x (by unfold XEdge.all; simp [hx]); omega) hg
      obtain ⟨hfn, _⟩ := newG_fine hsm hg
      have hne : b1 ≠ mb := fun e => by rw [← e, g1] at hmb; cases hmb
      refine Gs.regionM [1, 2, 3, 7] [46] fun K hK => ?_; simp (maxSteps:=9^7) only [go_sem, g1, hne]
      refine ⟨_, Tryz.call22, (refOuts_own m _ (by omega) hsm).mono ?_⟩
      rintro e σ2 ⟨o, hgr, rfl, rfl⟩
      simp only [go_sem]
      obtain ⟨O, hO⟩ : ∃ O, O = putAll [] (m.edges.flatMap XEdge.outs) := ⟨_, rfl⟩
      rw [← hO] at hgr ⊢
      have hOm : ∀ x ∈ O, x.size ≤ 200 := fun x hx => by
        rw [hO] at hx
        rcases (putAll_iff _ _ _).1 hx with h | h
        · cases h
        · obtain ⟨e, he, hxe⟩ := List.mem_flatMap.1 h
          exact hnm e he x (by unfold XEdge.all; simp [hxe])
      have hOn : O.length ≤ 300 := by
        have h5 := putAll_len [] (m.edges.flatMap XEdge.outs)
        have h6 := outsTo_len m hsm m.edges.length (Nat.le_refl _)
        unfold outsTo at h6
        rw [List.take_length] at h6
        rw [hO]
        simp only [List.length_nil] at h5
        omega
      have hol : (O.map sD).length = O.length := List.length_map ..
      have z0 : (if o = none then [] else O.map sD) = O.map sD := by
        split
        · rename_i h; exact (hgr.zero h).symm
        · rfl
      have htk : List.take O.length (O.map sD) = O.map sD := List.take_of_length_le (by omega)
      have hd := hgr.sdel
      simp only [z0, htk, hd]
      refine ⟨by decide, ⟨by omega, fun y hy => by rw [hy]; exact ⟨rfl, rfl⟩, by omega, by omega⟩, fun ob hz hf => ?_⟩
      have e1 : O.map sD ++ [D.v (.string f)] = (O ++ [f]).map sD := by rw [List.map_append]; rfl
      rw [e1] at hz ⊢
      refine hK _ _ ?_; clear hK K
      refine Gs.rebase [1, 2, 3, 7, 9] ?_
      simp only [go_sem]
      refine pubSlot2 9 (o := ob) (xs := (O ++ [f]).map sD) rfl ⟨hf, hz⟩ (fun c hc => ?_) (fun c hc p hp hk => ?_) ?_
      · obtain ⟨n1, h2⟩ := sget_none (hf c hc)
        obtain ⟨n2, _⟩ := sget_none h2
        exact .cons n1 (fun s xs => mkE_pub c s xs _) (.cons n2 (fun _ _ => rfl) (.nil c))
      · simp only [List.mem_cons, List.not_mem_nil, or_false] at hp
        rcases hp with rfl | rfl | rfl | rfl | rfl <;> first | rfl | exact absurd rfl hk
      simp only [go_sem]
      obtain ⟨A, hA⟩ : ∃ A, A = O ++ [f] := ⟨_, rfl⟩
      rw [← hA]
      have hAm : ∀ x ∈ A, x.size < 2 ^ 40 := fun x hx => by
        rw [hA] at hx
        rcases List.mem_append.1 hx with h | h
        · have := hOm x h; omega
        · rw [List.mem_singleton.1 h]; omega
      have hAl : (A.map sD).length = A.length := List.length_map ..
      have hAn : A.length ≤ 301 := by rw [hA, List.length_append]; simp; omega
      have gb : sget b1 [(mb, AObj.mp (mkE g.mks)), (b1, AObj.arr 2 [D.agg [.slc (m.edges.map XEdge.d), .slc (m.defs.map sD)]])] = some (.arr 2 [D.agg [.slc (m.edges.map XEdge.d), .slc (m.defs.map sD)]]) := by rw [sget_cons, if_neg hne, sget_self]
      have gm : sget mb [(mb, AObj.mp (mkE g.mks)), (b1, AObj.arr 2 [D.agg [.slc (m.edges.map XEdge.d), .slc (m.defs.map sD)]])] = some (.mp (mkE g.mks)) := sget_self ..
      have ct : ∀ (n : Int) (x : ByteArray), x.size < 2 ^ 40 → AC Tryz.prog 23 [.elt (g.cells mb), .v (.int .i64 n), .v (.string x)] [(mb, AObj.mp (mkE g.mks)), (b1, AObj.arr 2 [D.agg [.slc (m.edges.map XEdge.d), .slc (m.defs.map sD)]])] (fun e σ' => e = .ret (.v (.bool (thereN m n x))) ∧ σ' = [(mb, AObj.mp (mkE g.mks)), (b1, AObj.arr 2 [D.agg [.slc (m.edges.map XEdge.d), .slc (m.defs.map sD)]])]) := fun n x hx => by
        have := there_any g hok hfn mb n x hx _ gm
        rw [hgm] at this
        exact this
      have cr := fun (n : Int) (x : ByteArray) σ => refThere_calls m n x σ (by omega) hsm
      refine Gs.sq (Gs.sq ?_)
      refine Gs.rg [1, 2, 3, 7, 9] fun K hK => ?_; simp (maxSteps:=9^7) only [go_sem]
      refine hK _ _ ?_; clear hK K
      refine Gs.bk ?_
      refine Gs.rebase [1, 2, 3, 7, 9, 10] ?_
      simp only [go_sem]
      refine Gs.while (fun (i : Nat) env' σ'' => (i ≤ m.edges.length) ∧ env' = [(1, .v (.int .i64 n)), (2, .v (.string f)), (3, .ptr b1 2 0 0), (7, .elt (g.cells mb)), (9, .slc (A.map sD)), (10, .v (.int .i64 (i : Int)))] ∧ σ'' = [(mb, AObj.mp (mkE g.mks)), (b1, AObj.arr 2 [D.agg [.slc (m.edges.map XEdge.d), .slc (m.defs.map sD)]])]) (fun (i : Nat) => m.edges.length - i) 0 ⟨Nat.zero_le _, rfl, rfl⟩ ?_
      rintro i env' σ'' ⟨hi, rfl, rfl⟩ ih
      have ih1 := ih
      refine Gs.sq (Gs.sq ?_)
      refine Gs.rg [1, 2, 3, 7, 9, 10] fun K hK => ?_; simp (maxSteps:=9^7) only [go_sem, gb, hll]
      refine hK _ _ ?_; clear hK K
      refine Gs.cond rfl (fun h52 => ?_) (fun h52 => ?_)
      · have hlt : i < m.edges.length := Int.ofNat_lt.1 (by simpa using h52)
        refine Gs.sk ?_
        refine Gs.sq ?_
        refine Gs.bk ?_
        refine Gs.sq (Gs.rg [1, 2, 3, 7, 9, 10] fun K hK => ?_); simp (maxSteps:=9^7) only [go_sem]
        refine hK _ _ ?_; clear hK K
        refine Gs.bk ?_
        refine Gs.rebase [1, 2, 3, 7, 9, 10, 11] ?_
        simp only [go_sem]
        refine Gs.while (fun (k : Nat) env' σ'' => (k ≤ A.length) ∧ env' = [(1, .v (.int .i64 n)), (2, .v (.string f)), (3, .ptr b1 2 0 0), (7, .elt (g.cells mb)), (9, .slc (A.map sD)), (10, .v (.int .i64 (i : Int))), (11, .v (.int .i64 (k : Int)))] ∧ σ'' = [(mb, AObj.mp (mkE g.mks)), (b1, AObj.arr 2 [D.agg [.slc (m.edges.map XEdge.d), .slc (m.defs.map sD)]])]) (fun (k : Nat) => A.length - k) 0 ⟨Nat.zero_le _, rfl, rfl⟩ ?_
        rintro k env' σ'' ⟨hk, rfl, rfl⟩ ih
        have ih2 := ih
        refine Gs.sq (Gs.sq ?_)
        refine Gs.rg [1, 2, 3, 7, 9, 10, 11] fun K hK => ?_; simp (maxSteps:=9^7) only [go_sem, hAl]
        refine hK _ _ ?_; clear hK K
        refine Gs.cond rfl (fun h58 => ?_) (fun h58 => ?_)
        · have hltk : k < A.length := Int.ofNat_lt.1 (by simpa using h58)
          have hgk := getD_map_lt sD A k hltk
          rw [sD] at hgk
          have hk0 : (0 : Int) ≤ (k : Int) := by omega
          have hk1 : (k : Int) < (A.length : Int) := by omega
          refine Gs.sk ?_
          refine Gs.sq ?_
          refine Gs.bk ?_
          refine Gs.sq ?_
          refine Gs.draw [1, 2, 3, 7, 9, 10, 11] [] [b1] [] [(0, true), (1, true), (2, true), (3, true), (4, true), (5, true), (7, true), (8, true), (9, true), (10, true), (11, true), (12, true), (6, false), (13, false), (14, true)] (by kernel_rfl) (by decide) (by kernel_rfl) fun K hK => ?_; simp (maxSteps:=9^7) only [go_sem, hAl, hgk, hk0, hk1, gb]
          refine ⟨_, Tryz.call23, (ct (i : Int) A[k] (hAm _ (List.getElem_mem hltk))).mono ?_⟩
          rintro e σ1 ⟨rfl, rfl⟩
          simp only [go_sem, gb]
          refine ⟨_, Tryz.call24, (cr (i : Int) A[k] _).mono ?_⟩
          rintro e σ1 ⟨rfl, rfl⟩
          simp only [go_sem, bne_self_eq_false]
          refine hK _ _ ?_; clear hK K
          refine Gs.condF rfl ?_
          refine Gs.sk ?_
          refine Gs.ib ?_
          refine Gs.rg [1, 2, 3, 7, 9, 10, 11] fun K hK => ?_; simp (maxSteps:=9^7) only [go_sem]
          refine hK _ _ ?_; clear hK K
          refine Gs.rebase [1, 2, 3, 7, 9, 10, 11] ?_
          simp only [go_sem]
          rw [wrap_succ k (by omega)]
          exact ih2 (k + 1) _ _ ⟨by omega, rfl, rfl⟩ (by omega)
        · have hke : k = A.length := by
            have h : (A.length : Int) ≤ k := by simpa using h58
            omega
          refine Gs.exit rfl ?_
          refine Gs.ib ?_
          refine Gs.rg [1, 2, 3, 7, 9, 10] fun K hK => ?_; simp (maxSteps:=9^7) only [go_sem]
          refine hK _ _ ?_; clear hK K
          refine Gs.rebase [1, 2, 3, 7, 9, 10] ?_
          simp only [go_sem]
          rw [wrap_succ i (by omega)]
          exact ih1 (i + 1) _ _ ⟨by omega, rfl, rfl⟩ (by omega)
      · have hws : wrongB g = wrongR m := by rw [← hgm]; exact wrong_same hfn
        have cw : AC Tryz.prog 25 [.elt (g.cells mb)] [(mb, AObj.mp (mkE g.mks)), (b1, AObj.arr 2 [D.agg [.slc (m.edges.map XEdge.d), .slc (m.defs.map sD)]])] (fun e σ' => e = .ret (.v (.bool (wrongR m))) ∧ σ' = [(mb, AObj.mp (mkE g.mks)), (b1, AObj.arr 2 [D.agg [.slc (m.edges.map XEdge.d), .slc (m.defs.map sD)]])]) := by
          have := wrong_calls g hok mb _ gm (sources_size hok (fun e he x hx => by rw [hgm] at he; have := hnm e he x (by unfold XEdge.all; unfold XEdge.needs at hx; simp only [List.mem_append] at hx ⊢; rcases hx with (h | h) | h; exact .inl (.inl (.inr h)); exact .inl (.inr h); exact .inr h); omega))
          rw [hws] at this
          exact this
        refine Gs.exit rfl ?_
        refine Gs.sq ?_
        refine Gs.draw [1, 2, 3, 7] [] [b1] [] [(0, true), (2, true), (1, false), (3, false), (4, true), (5, true), (6, true), (7, true), (8, true), (10, true), (11, true), (12, true), (9, false), (13, false), (14, true), (15, true), (16, true), (17, false), (18, true), (19, true)] (by kernel_rfl) (by decide) (by kernel_rfl) fun K hK => ?_; simp (maxSteps:=9^7) only [go_sem, gb]
        refine ⟨_, Tryz.call25, cw.mono ?_⟩
        rintro e σ1 ⟨rfl, rfl⟩
        simp only [go_sem, gb]
        refine ⟨_, Tryz.call26, (refWrong_calls m _ (by omega) hsm).mono ?_⟩
        rintro e σ1 ⟨rfl, rfl⟩
        simp only [go_sem, gb, BEq.rfl, beq_self_eq_true]
        refine ⟨_, Tryz.call23, (ct n f (by omega)).mono ?_⟩
        rintro e σ1 ⟨rfl, rfl⟩
        simp only [go_sem, gb, BEq.rfl, beq_self_eq_true]
        refine ⟨_, Tryz.call24, (cr n f _).mono ?_⟩
        rintro e σ1 ⟨rfl, rfl⟩
        simp only [go_sem, gb, BEq.rfl, beq_self_eq_true]
        refine ⟨_, Tryz.call17, (awake_calls _).mono ?_⟩
        rintro e σ1 ⟨rfl, rfl⟩
        simp only [go_sem]
        refine hK _ _ ?_; clear hK K
        refine Gs.ret hC Tryz.func4 (by simp [go_sem]) ?_
        simp only [go_sem]
theorem sthere_law (xs : List D) (h : WTvs [manT, .int .i64, .str] xs) : AC Tryz.prog 4 xs [] (fun e _ => e = .ret (.v (.bool true))) := by
  obtain ⟨d, ds, rfl, h1, d2, ds2, rfl, h2, d3, ds3, rfl, h3, h4⟩ := h
  unfold WTvs at h4
  subst h4
  obtain ⟨m, rfl⟩ := wt_man h1
  have h0 := h2.1 rfl
  unfold WT at h0
  obtain ⟨n, hn, _⟩ := h0
  cases hn
  obtain ⟨f, hf⟩ := wt_str (h3.1 rfl)
  cases hf
  exact (sthere_true m n f []).mono fun e σ' h => h.1
end Go.Ab.S16
namespace Go.Proofs.YticjnnmnjfpopaaGreatDoor
open Go.ChangeShapes Go.WideShapes Go.ChangeAt Go.RowKit Go.Ab
theorem own_knob : ownKnob Tryz.prog.godebug = none := by kernel_rfl
theorem laid_out : laidOutB Tryz.prog = true := by kernel_rfl
theorem cell_lt {w : World} {a : Addr} {v : Value} (h : w.cell? a = some v) : a.block < w.heap.size := by
  unfold World.cell? at h
  split at h
  · rename_i hb; exact (Array.getElem?_eq_some_iff.1 hb).1
  · cases h
def LL : List (String × DataW Unit) := Rows.scratchFitsRow.laid
theorem laid_plain : (LL.all fun x => x.2.handleName?.isNone) = true := by kernel_rfl
theorem laid_met (os : Os) (args : Array Value) : laidMetH Tryz.prog LL ((World.laidAll Tryz.prog os LL).forCall (fun _ _ => 0) ⟨#[], args, []⟩).memory := by
  rw [MakeChecks.laidMetH_plain _ _ _ laid_plain]
  exact laidMet_laidAll _ (by kernel_rfl) (by kernel_rfl)
theorem laid_shaped (os : Os) (args : Array Value) : ((World.laidAll Tryz.prog os LL).forCall (fun _ _ => 0) ⟨#[], args, []⟩).Shaped Tryz.prog :=
  World.shaped_of_ZipB (by kernel_rfl) (by kernel_rfl)
theorem laid_gok {W : World} (h : laidMetH Tryz.prog LL W) : GOk W (fun b => b < W.heap.size) := by
  rw [MakeChecks.laidMetH_plain _ _ _ laid_plain] at h
  intro g vs hg
  unfold glaid at hg
  simp only [glook] at hg
  split at hg
  · rename_i hgg
    subst hgg
    simp only [Option.some.injEq] at hg
    obtain ⟨g', t', cs, fuel, p, hg', ht', hv, hd⟩ := Lib.laidMet.reads h (show ("math/bits.deBruijn64tab", Rows.laid_math_bits_deBruijn64tab) ∈ LL from .tail _ (.head _))
    have hgn : Tryz.prog.globalNamed "math/bits.deBruijn64tab" = some 3 := by kernel_rfl
    have hty : (Tryz.prog.globals[3]?).map (·.type) = some 265 := by kernel_rfl
    obtain rfl := Option.some.inj (hgn.symm.trans hg')
    obtain rfl := Option.some.inj (hty.symm.trans ht')
    have hcs := Lib.cells_of_tab (n := 64) (k := .u8) (e := 5) (zs := vs.filterMap fun v => match v with | .int _ z => some z | _ => none) (by kernel_rfl) (by kernel_rfl) (by kernel_rfl) (by kernel_rfl) (by
      subst hg; exact hd)
    have hvs : (vs.filterMap fun v => match v with | .int _ z => some z | _ => none).map (fun z => Value.int .u8 z) = vs := by subst hg; rfl
    rw [hvs] at hcs
    have hcell : ∀ k x, vs[k]? = some x → W.cell? ⟨3, k, none⟩ = some x := fun k x hx => by
      rw [World.var?_cell hgn hv k]
      rw [← hcs] at hx
      simpa using hx
    have h0 : W.cell? ⟨3, 0, none⟩ = some (.int .u8 0) := hcell 0 _ (by subst hg; rfl)
    exact ⟨cell_lt h0, fun k x hx => by rw [Nat.zero_add]; exact hcell k x hx⟩
  · cases hg
end Go.Proofs.YticjnnmnjfpopaaGreatDoor
