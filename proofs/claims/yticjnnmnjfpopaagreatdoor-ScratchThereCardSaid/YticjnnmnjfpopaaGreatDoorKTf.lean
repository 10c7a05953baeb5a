/- A part of a proof about the given program: the abstract machine, what functions compute, laid in few texts. -/
import Derived.Test.YticjnnmnjfpopaaGreatDoorKTe
import Derived.Laws.BitsAllLaws
set_option linter.unusedSimpArgs false
set_option linter.unusedVariables false
set_option linter.constructorNameAsVariable false
namespace Go.Ab.S16
open Go Go.Proofs
theorem grd_dropO {ob o2 : Option Nat} {sa sb : Nat} {xs ys : List D} {ρ : Store} (h : GrD ob sa xs (cellsOf o2 sb ys ++ ρ)) (h2 : GrD o2 sb ys ρ) : GrD ob sa xs ρ ∧ SLe (cellsOf ob sa xs ++ ρ) (cellsOf ob sa xs ++ (cellsOf o2 sb ys ++ ρ)) := by
  cases o2 with
  | none => exact ⟨h, SLe.refl _⟩
  | some c => exact h.drop (h2.fresh c rfl)
theorem grd_oget2 {o o2 : Option Nat} {sz sb : Nat} {xs ys : List D} {ρ : Store} (h : GrD o sz xs ρ) (h2 : GrD o2 sb ys (cellsOf o sz xs ++ ρ)) : oget sz o (cellsOf o2 sb ys ++ (cellsOf o sz xs ++ ρ)) = some xs := by
  cases o with
  | none => rw [h.zero rfl]; rfl
  | some c =>
    have hk := h2.keep (b := c) (x := .arr sz xs) (sget_self c _ _)
    simp [oget, hk]
theorem grd_sdelo2 {o o2 : Option Nat} {sz sb : Nat} {xs ys : List D} {ρ : Store} (h : GrD o sz xs ρ) (h2 : GrD o2 sb ys (cellsOf o sz xs ++ ρ)) : sdelo o (cellsOf o2 sb ys ++ (cellsOf o sz xs ++ ρ)) = cellsOf o2 sb ys ++ ρ := by
  cases o with
  | none => rfl
  | some c =>
    cases o2 with
    | none => exact h.sdel
    | some a =>
      have hac : c ≠ a := fun e => by
        have := h2.fresh a rfl
        rw [← e] at this
        change sget c ((c, _) :: _) = none at this
        rw [sget_self] at this; cases this
      have hd := h.sdel
      change sdel c ((c, _) :: ρ) = ρ at hd
      show sdel c ((a, _) :: (c, _) :: ρ) = (a, _) :: ρ
      simp only [sdel, if_neg hac, if_true] at hd ⊢
      rw [hd]
def allB (decl : List ByteArray) (files : List XFile) : List ByteArray → List UInt8 → Option (List UInt8)
  | [], out => some out
  | n :: r, out => (argF decl files n).bind fun b => if out.length + b.length ≤ 131072 then allB decl files r (out ++ b) else none
theorem argF_len {decl : List ByteArray} {files : List XFile} {n : ByteArray} {b : List UInt8} {B : Nat} (hb : ∀ f ∈ files, f.b.length < B) (h : argF decl files n = some b) : b.length < B := by
  unfold argF findF at h
  obtain ⟨x, hx, h2⟩ := Option.bind_eq_some_iff.1 h
  obtain ⟨f, hf, rfl⟩ := Option.map_eq_some_iff.1 hx
  split at h2
  · cases h2; exact hb f (List.mem_of_find?_eq_some hf)
  · cases h2
theorem all_calls (args decl : List ByteArray) (files : List XFile) (found : D) (many : Int) (bc : Nat) (σ : Store) (hc : sget bc σ = some (ckR args decl files found many)) (hl : files.length < 2 ^ 31) (hb : ∀ f ∈ files, f.b.length < 2 ^ 40) (hd : decl.length < 2 ^ 40) (ha : args.length < 2 ^ 40) :
    AC Tryz.prog 130 [.ptr bc 5 0 0] σ (AR (allB decl files args []) (ownRet σ) σ) := by
  have hal : (args.map sD).length = args.length := List.length_map ..
  have hcc := hc
  unfold ckR at hc
  refine AC.of_body Tryz.func130 rfl Tryz.ntmps130 (by simp) fun C hC => ?_
  refine Gs.sq (Gs.rg [0] fun K hK => ?_); simp (maxSteps:=9^7) only [go_sem]
  refine hK _ _ ?_; clear hK K
  refine Gs.sq (Gs.rg [0] fun K hK => ?_); simp (maxSteps:=9^7) only [go_sem]
  refine hK _ _ ?_; clear hK K
  refine Gs.sq (Gs.sq ?_)
  refine Gs.rg [0, 3] fun K hK => ?_; simp (maxSteps:=9^7) only [go_sem, hc, hal]
  refine hK _ _ ?_; clear hK K
  refine Gs.bk ?_
  refine Gs.nilOwn 3 1 rfl ?_
  refine Gs.rebase [0, 3, 9, 10, 11] ?_
  simp only [go_sem]
  refine Gs.while (fun (i : Nat) env' σ'' => ∃ o : Option Nat, ∃ out : List UInt8, (i ≤ args.length ∧ GrD o 1 (out.map bD) σ ∧ allB decl files (args.drop i) out = allB decl files args [] ∧ out.length ≤ 131072) ∧ env' = [(0, .ptr bc 5 0 0), (3, .own o 1 out.length), (9, .slc (args.map sD)), (10, .v (.int .i64 (args.length : Int))), (11, .v (.int .i64 (i : Int)))] ∧ σ'' = cellsOf o 1 (out.map bD) ++ σ) (fun (i : Nat) => args.length - i) 0 ⟨none, [], ⟨by omega, GrD.nil _ _, rfl, by simp⟩, rfl, rfl⟩ ?_
  rintro i env' σ'' ⟨o, out, ⟨hi, hgr, hfin, hlo⟩, rfl, rfl⟩ ih
  have ih1 := ih
  refine Gs.sq (Gs.rg [0, 3, 9, 10, 11] fun K hK => ?_); simp (maxSteps:=9^7) only [go_sem]
  refine hK _ _ ?_; clear hK K
  refine Gs.sq ?_
  refine Gs.cond rfl (fun h12 => ?_) (fun h12 => ?_)
  · have hlt : i < args.length := by simpa using h12
    have hg := getD_map_lt sD args i hlt
    rw [sD] at hg
    have hi0 : (0 : Int) ≤ (i : Int) := by omega
    have hi1 : (i : Int) < ((args.map sD).length : Int) := by omega
    have hc2 := hgr.keep hcc
    have harg := argument_calls args decl files found many bc args[i] _ hc2 hl hb hd
    have hml : (out.map bD).length = out.length := List.length_map ..
    have htk : List.take out.length (out.map bD) = out.map bD := List.take_of_length_le (by omega)
    rw [List.drop_eq_getElem_cons hlt, allB] at hfin
    refine Gs.sk ?_
    refine Gs.sq ?_
    refine Gs.bk ?_
    refine Gs.sq (Gs.rg [0, 3, 9, 10, 11] fun K hK => ?_); simp (maxSteps:=9^7) only [go_sem, hg, hi0, hi1]
    refine hK _ _ ?_; clear hK K
    refine Gs.sq ?_
    rcases hAF : argF decl files args[i] with _ | bs
    all_goals rw [hAF] at harg hfin
    · refine Gs.rg [0, 3, 5, 9, 10, 11] fun K hK => ?_; simp (maxSteps:=9^7) only [go_sem]
      refine ⟨_, Tryz.call133, harg.mono ?_⟩
      rintro e σ1 ⟨rfl, hsl⟩
      simp only [go_sem]
      exact Pan.of hC Tryz.func130 (by rw [← hfin]; exact ⟨rfl, fun b x hb => hsl b x (hgr.sle b x hb)⟩)
    · have hbl := argF_len hb hAF
      rw [Option.bind_some] at hfin
      refine Gs.rg [0, 3, 5, 9, 10, 11] fun K hK => ?_; simp (maxSteps:=9^7) only [go_sem]
      refine ⟨_, Tryz.call133, harg.mono ?_⟩
      rintro e σ1 ⟨o2, hgr2, rfl, rfl⟩
      have ho := grd_oget2 hgr hgr2
      have hd2 := grd_sdelo2 hgr hgr2
      have hs2 := hgr2.oget
      have hml2 : (bs.map bD).length = bs.length := List.length_map ..
      have htk2 : List.take (bs.map bD).length (bs.map bD) = bs.map bD := List.take_of_length_le (Nat.le_refl _)
      simp only [go_sem, ho, hd2, hs2, htk, htk2, Nat.le_refl]
      refine ⟨⟨by omega, plain_bD _, by omega, by omega⟩, fun ob hz hf => ?_⟩
      have hgo : GrD ob 1 (out.map bD ++ bs.map bD) (cellsOf o2 1 (bs.map bD) ++ σ) := ⟨hf, hz⟩
      have hg2 : GrD o2 1 (bs.map bD) σ := ⟨fun c hc => by
        have h6 := hgr2.fresh c hc
        cases o with
        | none => exact h6
        | some k =>
          change sget c ((k, _) :: σ) = none at h6
          exact (sget_none h6).2, hgr2.zero⟩
      have hdr := grd_dropO hgo hg2
      rw [← List.map_append] at hdr ⊢
      refine hK _ _ ?_; clear hK K
      refine Gs.le (ELe.refl _) hdr.2 ?_
      have hml3 : ((out ++ bs).map bD).length = out.length + bs.length := by simp
      rcases Nat.lt_or_ge 131072 (out.length + bs.length) with hbig | hbig
      · have hdec : decide (((out.length + bs.length : Nat) : Int) ≤ 131072) = false := by simp; omega
        refine Gs.rg [0, 3, 9, 10, 11] fun K hK => ?_; simp (maxSteps:=9^7) only [go_sem, hml3, hdec]
        refine ⟨_, Tryz.call81, (need_calls false _).mono ?_⟩
        rintro e σ1 ⟨rfl, rfl⟩
        simp only [go_sem]
        exact Pan.of hC Tryz.func130 (by rw [← hfin, if_neg (by omega)]; exact ⟨rfl, hdr.1.sle⟩)
      · have hdec : decide (((out.length + bs.length : Nat) : Int) ≤ 131072) = true := by simp; omega
        refine Gs.rg [0, 3, 9, 10, 11] fun K hK => ?_; simp (maxSteps:=9^7) only [go_sem, hml3, hdec]
        refine ⟨_, Tryz.call81, (need_calls true _).mono ?_⟩
        rintro e σ1 ⟨rfl, rfl⟩
        simp only [go_sem]
        refine hK _ _ ?_; clear hK K
        refine Gs.ib ?_
        refine Gs.rg [0, 3, 9, 10, 11] fun K hK => ?_; simp (maxSteps:=9^7) only [go_sem]
        refine hK _ _ ?_; clear hK K
        refine Gs.rebase [0, 3, 9, 10, 11] ?_
        simp only [go_sem]
        rw [wrap_succ i (by omega)]
        rw [if_pos hbig] at hfin
        refine ih (i + 1) _ _ ⟨ob, out ++ bs, ⟨by omega, hdr.1, hfin, by simp; omega⟩, ?_, rfl⟩ (by omega)
        simp only [List.length_append, List.length_map]
  · have hie : i = args.length := by simp at h12; omega
    subst hie
    rw [List.drop_length, allB] at hfin
    refine Gs.exit rfl ?_
    refine Gs.sq (Gs.rg [3] fun K hK => ?_); simp (maxSteps:=9^7) only [go_sem]
    refine hK _ _ ?_; clear hK K
    refine Gs.ret hC Tryz.func130 (by simp [go_sem]) ?_
    simp only [go_sem]
    rw [← hfin]
    exact ⟨o, hgr, by rw [List.length_map], rfl⟩
def oneB (decl : List ByteArray) (files : List XFile) : List ByteArray → Option (List UInt8)
  | [n] => argF decl files n
  | _ => none
theorem one_calls (args decl : List ByteArray) (files : List XFile) (found : D) (many : Int) (bc : Nat) (σ : Store) (hc : sget bc σ = some (ckR args decl files found many)) (hl : files.length < 2 ^ 31) (hb : ∀ f ∈ files, f.b.length < 2 ^ 40) (hd : decl.length < 2 ^ 40) (ha : args.length < 2 ^ 40) :
    AC Tryz.prog 131 [.ptr bc 5 0 0] σ (AR (oneB decl files args) (ownRet σ) σ) := by
  have hal : (args.map sD).length = args.length := List.length_map ..
  have hcc := hc
  unfold ckR at hc
  refine AC.of_body Tryz.func131 rfl Tryz.ntmps131 (by simp) fun C hC => ?_
  rcases Nat.decEq args.length 1 with hne | he
  · have hone : oneB decl files args = none := by
      unfold oneB
      split
      · exact absurd rfl hne
      · rfl
    have hdec : ((args.length : Int) == 1) = false := by simp; omega
    rw [hone] at hC
    refine Gs.sq (Gs.rg [0] fun K hK => ?_); simp (maxSteps:=9^7) only [go_sem]
    refine hK _ _ ?_; clear hK K
    refine Gs.sq (Gs.rg [0] fun K hK => ?_); simp (maxSteps:=9^7) only [go_sem, hc, hal, hdec]
    refine ⟨_, Tryz.call81, (need_calls false _).mono ?_⟩
    rintro e σ1 ⟨rfl, rfl⟩
    simp only [go_sem]
    exact Pan.of hC Tryz.func131 ⟨rfl, SLe.refl _⟩
  · obtain ⟨n, rfl⟩ : ∃ n, args = [n] := by
      match args, he with
      | [n], _ => exact ⟨n, rfl⟩
    have harg := argument_calls [n] decl files found many bc n _ hcc hl hb hd
    have hone : oneB decl files [n] = argF decl files n := rfl
    have hdec : (((([n] : List ByteArray).length : Nat) : Int) == 1) = true := rfl
    have hmap : ([n] : List ByteArray).map sD = [.v (.string n)] := rfl
    rw [hone] at hC
    refine Gs.sq (Gs.rg [0] fun K hK => ?_); simp (maxSteps:=9^7) only [go_sem]
    refine hK _ _ ?_; clear hK K
    refine Gs.sq (Gs.rg [0] fun K hK => ?_); simp (maxSteps:=9^7) only [go_sem, hc, hal, hdec]
    refine ⟨_, Tryz.call81, (need_calls true _).mono ?_⟩
    rintro e σ1 ⟨rfl, rfl⟩
    simp only [go_sem]
    refine hK _ _ ?_; clear hK K
    refine Gs.sq ?_
    rcases hAF : argF decl files n with _ | bs
    all_goals rw [hAF] at harg hC
    · refine Gs.rg [0] fun K hK => ?_; simp (maxSteps:=9^7) only [go_sem, hc, hmap]
      refine ⟨by decide, ?_⟩
      refine ⟨_, Tryz.call133, harg.mono ?_⟩
      rintro e σ1 ⟨rfl, hsl⟩
      simp only [go_sem]
      exact Pan.of hC Tryz.func131 ⟨rfl, hsl⟩
    · refine Gs.rg [0] fun K hK => ?_; simp (maxSteps:=9^7) only [go_sem, hc, hmap]
      refine ⟨by decide, ?_⟩
      refine ⟨_, Tryz.call133, harg.mono ?_⟩
      rintro e σ1 ⟨o2, hgr2, rfl, rfl⟩
      simp only [go_sem]
      refine hK _ _ ?_; clear hK K
      refine Gs.ret hC Tryz.func131 (by simp [go_sem]) ?_
      simp only [go_sem]
      exact ⟨o2, hgr2, rfl, rfl⟩
theorem cat_calls (args decl : List ByteArray) (files : List XFile) (found : D) (many : Int) (bc : Nat) (σ : Store) (hc : sget bc σ = some (ckR args decl files found many)) (hl : files.length < 2 ^ 31) (hb : ∀ f ∈ files, f.b.length < 2 ^ 40) (hd : decl.length < 2 ^ 40) (ha : args.length < 2 ^ 40) :
    AC Tryz.prog 106 [.ptr bc 5 0 0] σ (AR (allB decl files args []) (ownRet σ) σ) := by
  have hall := all_calls args decl files found many bc σ hc hl hb hd ha
  refine AC.of_body Tryz.func106 rfl Tryz.ntmps106 (by simp) fun C hC => ?_
  refine Gs.sq (Gs.rg [0] fun K hK => ?_); simp (maxSteps:=9^7) only [go_sem]
  refine hK _ _ ?_; clear hK K
  refine Gs.sq ?_
  rcases hAF : allB decl files args [] with _ | bs
  all_goals rw [hAF] at hall hC
  · refine Gs.rg [0] fun K hK => ?_; simp (maxSteps:=9^7) only [go_sem]
    refine ⟨_, Tryz.call130, hall.mono ?_⟩
    rintro e σ1 ⟨rfl, hsl⟩
    simp only [go_sem]
    exact Pan.of hC Tryz.func106 ⟨rfl, hsl⟩
  · refine Gs.rg [0] fun K hK => ?_; simp (maxSteps:=9^7) only [go_sem]
    refine ⟨_, Tryz.call130, hall.mono ?_⟩
    rintro e σ1 ⟨o2, hgr2, rfl, rfl⟩
    simp only [go_sem]
    refine hK _ _ ?_; clear hK K
    refine Gs.ret hC Tryz.func106 (by simp [go_sem]) ?_
    simp only [go_sem]
    exact ⟨o2, hgr2, rfl, rfl⟩
theorem fail_calls (bc : Nat) (σ : Store) : AC Tryz.prog 111 [.ptr bc 5 0 0] σ (AR (α := List UInt8) none (ownRet σ) σ) := by
  refine AC.of_body Tryz.func111 rfl Tryz.ntmps111 (by simp) fun C hC => ?_
  refine Gs.sq (Gs.rg [] fun K hK => ?_); simp (maxSteps:=9^7) only [go_sem]
  refine hK _ _ ?_; clear hK K
  refine Gs.sq (Gs.rg [] fun K hK => ?_); simp (maxSteps:=9^7) only [go_sem]
  refine ⟨_, Tryz.call81, (need_calls false _).mono ?_⟩
  rintro e σ1 ⟨rfl, rfl⟩
  simp only [go_sem]
  exact Pan.of hC Tryz.func111 ⟨rfl, SLe.refl _⟩
def putB (args : List ByteArray) : List UInt8 := Lib.join (args.map (·.data.toList)) [32] ++ [10]
theorem put_calls (args decl : List ByteArray) (files : List XFile) (found : D) (many : Int) (bc : Nat) (σ : Store) (hc : sget bc σ = some (ckR args decl files found many)) (ha : args.length < 2 ^ 30) (hj : (Lib.join (args.map (·.data.toList)) [32]).length < 2 ^ 45) :
    AC Tryz.prog 109 [.ptr bc 5 0 0] σ (ownRet σ (putB args)) := by
  unfold ckR at hc
  have hjc := join_calls args ⟨#[32]⟩ σ (by omega) (by
    show (Lib.join (args.map (·.data.toList)) [32]).length ≤ _
    omega)
  refine AC.of_body Tryz.func109 rfl Tryz.ntmps109 (by simp) fun C hC => ?_
  refine Gs.sq (Gs.rg [0] fun K hK => ?_); simp (maxSteps:=9^7) only [go_sem]
  refine hK _ _ ?_; clear hK K
  refine Gs.sq ?_
  have hsz : (⟨(Lib.join (args.map (·.data.toList)) [32]).toArray⟩ : ByteArray).size + (⟨#[10]⟩ : ByteArray).size < 4611686018427387904 := by
    show (Lib.join (args.map (·.data.toList)) [32]).toArray.size + 1 < _
    simp; omega
  have hadd := bin_sadd (P := Tryz.prog) (T := 9) (x := .tmp 7) (y := .const (.string ⟨#[10]⟩)) ⟨(Lib.join (args.map (·.data.toList)) [32]).toArray⟩ ⟨#[10]⟩ hsz
  refine Gs.rg [0] fun K hK => ?_; simp (maxSteps:=9^7) only [go_sem, hc]
  refine ⟨_, Tryz.call114, hjc.mono ?_⟩
  rintro e σ1 ⟨rfl, rfl⟩
  simp only [go_sem, hadd]
  refine ⟨by simp; omega, fun b hb => ?_⟩
  have e1 : ((⟨(Lib.join (args.map (fun x : ByteArray => x.data.toList)) [32]).toArray⟩ : ByteArray) ++ ⟨#[10]⟩).data.toList = putB args := by
    rw [ByteArray.data_append]
    simp [putB]
  have e2 : (Lib.join (args.map (fun x : ByteArray => x.data.toList)) [32]).toArray.size + (#[10] : Array UInt8).size = ((putB args).map bD).length := by simp [putB]
  rw [e1, e2]
  refine hK _ _ ?_; clear hK K
  refine Gs.ret hC Tryz.func109 (by simp [go_sem]) ?_
  simp only [go_sem]
  exact ⟨some b, ⟨fun c hc => by cases hc; exact hb, nofun⟩, rfl, rfl⟩
def revAt (l : List UInt8) (i : Nat) : List UInt8 := (List.range l.length).map fun k => if k < i ∨ l.length ≤ k + i then l.getD (l.length - 1 - k) 0 else l.getD k 0
theorem revAt_len (l : List UInt8) (i : Nat) : (revAt l i).length = l.length := by simp [revAt]
theorem revAt_zero (l : List UInt8) : revAt l 0 = l := by
  apply List.ext_getElem
  · simp [revAt]
  · intro k h1 h2
    simp only [revAt, List.getElem_map, List.getElem_range]
    rw [if_neg (by omega)]
    exact getD_lt l k 0 h2
theorem revAt_get (l : List UInt8) (i k : Nat) (h1 : i ≤ k) (h2 : k + i < l.length) : (revAt l i)[k]'(by rw [revAt_len]; omega) = l[k] := by
  simp only [revAt, List.getElem_map, List.getElem_range]
  rw [if_neg (by omega)]
  exact getD_lt l k 0 (by omega)
theorem revAt_set (l : List UInt8) (i : Nat) (h : 2 * i + 1 < l.length) : ((revAt l i).set i l[l.length - 1 - i]).set (l.length - 1 - i) l[i] = revAt l (i + 1) := by
  apply List.ext_getElem
  · simp [revAt]
  · intro k h1 h2
    rw [revAt_len] at h2
    rw [List.getElem_set, List.getElem_set]
    by_cases hk : l.length - 1 - i = k
    · rw [if_pos hk]
      simp only [revAt, List.getElem_map, List.getElem_range]
      rw [if_pos (by omega), show l.length - 1 - k = i by omega]
      exact (getD_lt l i 0 (by omega)).symm
    · rw [if_neg hk]
      by_cases hk2 : i = k
      · rw [if_pos hk2]
        simp only [revAt, List.getElem_map, List.getElem_range]
        rw [if_pos (by omega), ← hk2]
        exact (getD_lt l (l.length - 1 - i) 0 (by omega)).symm
      · rw [if_neg hk2]
        simp only [revAt, List.getElem_map, List.getElem_range]
        by_cases hc : k < i ∨ l.length ≤ k + i
        · rw [if_pos hc, if_pos (by omega)]
        · rw [if_neg hc, if_neg (by omega)]
theorem revAt_all (l : List UInt8) (i : Nat) (h : l.length ≤ 2 * i + 1) (hi : 2 * i ≤ l.length) : revAt l i = l.reverse := by
  apply List.ext_getElem
  · simp [revAt]
  · intro k h1 h2
    have hk : k < l.length := by simpa using h2
    rw [List.getElem_reverse]
    simp only [revAt, List.getElem_map, List.getElem_range]
    by_cases hc : k < i ∨ l.length ≤ k + i
    · rw [if_pos hc]; exact getD_lt l _ 0 (by omega)
    · rw [if_neg hc]
      rw [getD_lt l k 0 hk]
      congr 1
      omega
theorem reverse_own (b : Nat) (l : List UInt8) (ρ : Store) (hl : l.length < 2 ^ 40) :
    AC Tryz.prog 132 [.own (some b) 1 l.length] ((b, .arr 1 (l.map bD)) :: ρ) (fun e σ' => e = .ret (.tup []) ∧ σ' = (b, .arr 1 (l.reverse.map bD)) :: ρ) := by
  have hw0 : IntKind.i64.wrap ((l.length : Int) - 1) = (l.length : Int) - 1 - ((0 : Nat) : Int) := by rw [IntKind.wrap_i64]; omega
  refine AC.of_body Tryz.func132 rfl Tryz.ntmps132 (by simp) fun C hC => ?_
  refine Gs.sq (Gs.rg [0] fun K hK => ?_); simp (maxSteps:=9^7) only [go_sem]
  refine hK _ _ ?_; clear hK K
  refine Gs.bk ?_
  refine Gs.rebase [0, 2, 3] ?_
  simp only [go_sem]
  refine Gs.while (fun (i : Nat) env' σ'' => (2 * i ≤ l.length) ∧ env' = [(0, .own (some b) 1 l.length), (2, .v (.int .i64 (i : Int))), (3, .v (.int .i64 ((l.length : Int) - 1 - i)))] ∧ σ'' = (b, .arr 1 ((revAt l i).map bD)) :: ρ) (fun (i : Nat) => l.length - i) 0 ⟨by omega, by rw [hw0]; rfl, by rw [revAt_zero]⟩ ?_
  rintro i env' σ'' ⟨hi, rfl, rfl⟩ ih
  have ih1 := ih
  refine Gs.sq (Gs.sq ?_)
  refine Gs.rg [0, 2, 3] fun K hK => ?_; simp (maxSteps:=9^7) only [go_sem]
  refine hK _ _ ?_; clear hK K
  refine Gs.cond rfl (fun h9 => ?_) (fun h9 => ?_)
  · have hlt : (i : Int) < (l.length : Int) - 1 - i := by simpa using h9
    have hlt2 : 2 * i + 1 < l.length := by omega
    have hjn : (l.length : Int) - 1 - i = ((l.length - 1 - i : Nat) : Int) := by omega
    have hi0 : (0 : Int) ≤ (i : Int) := by omega
    have hi1 : (i : Int) < (l.length : Int) := by omega
    have hj0 : (0 : Int) ≤ ((l.length - 1 - i : Nat) : Int) := by omega
    have hj1 : ((l.length - 1 - i : Nat) : Int) < (l.length : Int) := by omega
    have hgi : ((revAt l i).map bD).getD i .any = bD l[i] := by rw [getD_map_lt bD (revAt l i) i (by rw [revAt_len]; omega), revAt_get l i i (by omega) (by omega)]
    have hgj : ((revAt l i).map bD).getD (l.length - 1 - i) .any = bD l[l.length - 1 - i] := by rw [getD_map_lt bD (revAt l i) (l.length - 1 - i) (by rw [revAt_len]; omega), revAt_get l i (l.length - 1 - i) (by omega) (by omega)]
    have hbl : ((revAt l i).map bD).length = l.length := by rw [List.length_map, revAt_len]
    have hgj2 : (((revAt l i).map bD).set i (.v (.int .u8 (l[l.length - 1 - i].toNat : Int)))).getD (l.length - 1 - i) .any = bD l[l.length - 1 - i] := by
      rw [← hgj, List.getD_eq_getElem?_getD, List.getElem?_set_ne (by omega), ← List.getD_eq_getElem?_getD]
    have hrow : (((revAt l i).map bD).set i (.v (.int .u8 (l[l.length - 1 - i].toNat : Int)))).set (l.length - 1 - i) (.v (.int .u8 (l[i].toNat : Int))) = (revAt l (i + 1)).map bD := by
      rw [← revAt_set l i hlt2, List.map_set, List.map_set]
      rfl
    have hsl : (((revAt l i).map bD).set i (.v (.int .u8 (l[l.length - 1 - i].toNat : Int)))).length = l.length := by rw [List.length_set, hbl]
    rw [bD] at hgi hgj hgj2
    refine Gs.sk ?_
    refine Gs.sq ?_
    refine Gs.bk ?_
    refine Gs.draw [0, 2, 3] [] [b] [15, 13] [(0, true), (1, true), (2, true), (3, true), (4, true), (5, true), (6, true), (7, true), (8, true), (9, true), (10, true), (11, true), (12, true), (13, false), (14, true), (15, false)] (by kernel_rfl) (by decide) (by kernel_rfl) fun K hK => ?_; simp (maxSteps:=9^7) only [go_sem, hjn, hi0, hi1, hj0, hj1, hgi, hgj, hbl, hsl, hgj2, hrow]
    refine ⟨by omega, by omega, by omega, by omega, ?_⟩
    refine hK _ _ ?_; clear hK K
    refine Gs.ib ?_
    refine Gs.rg [0, 2, 3] fun K hK => ?_; simp (maxSteps:=9^7) only [go_sem]
    refine hK _ _ ?_; clear hK K
    refine Gs.rebase [0, 2, 3] ?_
    simp only [go_sem]
    rw [wrap_succ i (by omega)]
    have hwj : IntKind.i64.wrap (((l.length - 1 - i : Nat) : Int) - 1) = (l.length : Int) - 1 - ((i + 1 : Nat) : Int) := by rw [IntKind.wrap_i64]; omega
    rw [hwj]
    exact ih (i + 1) _ _ ⟨by omega, rfl, rfl⟩ (by omega)
  · have hle : ¬ (i : Int) < (l.length : Int) - 1 - i := by simpa using h9
    refine Gs.exit rfl ?_
    refine Gs.done hC Tryz.func132 (by simp [go_sem]) ?_
    simp only [go_sem]
    rw [revAt_all l i (by omega) hi]
theorem reverse_none (σ : Store) : AC Tryz.prog 132 [.own none 1 0] σ (fun e σ' => e = .ret (.tup []) ∧ σ' = σ) := by
  have hw0 : IntKind.i64.wrap (0 - 1) = -1 := by rw [IntKind.wrap_i64]; omega
  refine AC.of_body Tryz.func132 rfl Tryz.ntmps132 (by simp) fun C hC => ?_
  refine Gs.sq (Gs.rg [0] fun K hK => ?_); simp (maxSteps:=9^7) only [go_sem, hw0]
  refine hK _ _ ?_; clear hK K
  refine Gs.bk ?_
  refine Gs.rebase [0, 2, 3] ?_
  simp only [go_sem]
  refine Gs.while (fun (i : Nat) env' σ'' => (True) ∧ env' = [(0, .own none 1 0), (2, .v (.int .i64 0)), (3, .v (.int .i64 (-1)))] ∧ σ = σ'') (fun (i : Nat) => 0) 0 ⟨trivial, rfl, rfl⟩ ?_
  rintro i env' σ'' ⟨-, rfl, rfl⟩ ih
  have ih1 := ih
  refine Gs.sq (Gs.sq ?_)
  refine Gs.rg [0, 2, 3] fun K hK => ?_; simp (maxSteps:=9^7) only [go_sem]
  refine hK _ _ ?_; clear hK K
  refine Gs.condF rfl ?_
  refine Gs.exit rfl ?_
  refine Gs.done hC Tryz.func132 (by simp [go_sem]) ?_
  simp only [go_sem]
theorem reverse_ownG (o : Option Nat) (l : List UInt8) (ρ : Store) (hg : GrD o 1 (l.map bD) ρ) (hl : l.length < 2 ^ 40) :
    AC Tryz.prog 132 [.own o 1 (l.map bD).length] (cellsOf o 1 (l.map bD) ++ ρ) (fun e σ' => e = .ret (.tup []) ∧ σ' = cellsOf o 1 (l.reverse.map bD) ++ ρ) := by
  cases o with
  | none =>
    have : l = [] := by have := hg.zero rfl; simpa using this
    subst this
    exact reverse_none ρ
  | some b =>
    rw [List.length_map]
    exact reverse_own b l ρ hl
theorem rev_calls (args decl : List ByteArray) (files : List XFile) (found : D) (many : Int) (bc : Nat) (σ : Store) (hc : sget bc σ = some (ckR args decl files found many)) (hl : files.length < 2 ^ 31) (hb : ∀ f ∈ files, f.b.length < 2 ^ 40) (hd : decl.length < 2 ^ 40) (ha : args.length < 2 ^ 40) :
    AC Tryz.prog 107 [.ptr bc 5 0 0] σ (AR ((oneB decl files args).map List.reverse) (ownRet σ) σ) := by
  have hone := one_calls args decl files found many bc σ hc hl hb hd ha
  refine AC.of_body Tryz.func107 rfl Tryz.ntmps107 (by simp) fun C hC => ?_
  refine Gs.sq (Gs.rg [0] fun K hK => ?_); simp (maxSteps:=9^7) only [go_sem]
  refine hK _ _ ?_; clear hK K
  refine Gs.sq ?_
  rcases hAF : oneB decl files args with _ | bs
  all_goals rw [hAF] at hone hC
  · refine Gs.rg [0] fun K hK => ?_; simp (maxSteps:=9^7) only [go_sem]
    refine ⟨_, Tryz.call131, hone.mono ?_⟩
    rintro e σ1 ⟨rfl, hsl⟩
    simp only [go_sem]
    exact Pan.of hC Tryz.func107 ⟨rfl, hsl⟩
  · refine Gs.rg [0] fun K hK => ?_; simp (maxSteps:=9^7) only [go_sem]
    refine ⟨_, Tryz.call131, hone.mono ?_⟩
    rintro e σ1 ⟨o2, hgr2, rfl, rfl⟩
    simp only [go_sem]
    refine hK _ _ ?_; clear hK K
    refine Gs.sq ?_
    have hbl : bs.length < 2 ^ 40 := by
      unfold oneB at hAF
      split at hAF
      · exact argF_len hb hAF
      · cases hAF
    refine Gs.rg [3] fun K hK => ?_; simp (maxSteps:=9^7) only [go_sem]
    refine ⟨_, Tryz.call132, (reverse_ownG o2 bs σ hgr2 hbl).mono ?_⟩
    rintro e σ1 ⟨rfl, rfl⟩
    simp only [go_sem]
    refine hK _ _ ?_; clear hK K
    refine Gs.sq (Gs.rg [3] fun K hK => ?_); simp (maxSteps:=9^7) only [go_sem]
    refine hK _ _ ?_; clear hK K
    refine Gs.ret hC Tryz.func107 (by simp [go_sem]) ?_
    simp only [go_sem]
    refine ⟨o2, GrD.re hgr2 fun h => ?_, ?_, rfl⟩
    · have : bs = [] := by simpa using h
      rw [this]; rfl
    · simp
def hashS (h : Nat) (c : UInt8) : Nat := (h ^^^ c.toNat) * 1099511628211 % 18446744073709551616
def hashN (l : List UInt8) : Nat := l.foldl hashS 14695981039346656037
theorem xor_u64 (P : Program) (T : TypeId) (xo yo : Operand) (a b : Nat) (ha : a < 18446744073709551616) (hb : b < 18446744073709551616) : aBin P .xor T xo yo (.v (.int .u64 (a : Int))) (.v (.int .u64 (b : Int))) = .val True (.v (.int .u64 ((a ^^^ b : Nat) : Int))) := by
  have hx : a ^^^ b < 2 ^ 64 := Nat.xor_lt_two_pow (by omega) (by omega)
  have h : IntKind.u64.wrap ((a % 2 ^ IntKind.u64.bits ^^^ b % 2 ^ IntKind.u64.bits : Nat) : Int) = ((a ^^^ b : Nat) : Int) := by
    rw [show IntKind.u64.bits = 64 from rfl, Nat.mod_eq_of_lt (by omega), Nat.mod_eq_of_lt (by omega), IntKind.wrap_u64]
    omega
  simp [aBin, ifcNil, aBin0, toV, scal, eqGuard, binOp, Op.intBits, okV, ofV, purely_pure]
  exact h
theorem hash1_calls (h : Nat) (hh : h < 18446744073709551616) (c : UInt8) (σ : Store) : AC Tryz.prog 158 [.v (.int .u64 (h : Int)), bD c] σ (fun e σ' => e = .ret (.v (.int .u64 (hashS h c : Int))) ∧ σ' = σ) := by
  have hc : c.toNat < 256 := c.toNat_lt
  have hw : IntKind.u64.wrap (c.toNat : Int) = (c.toNat : Int) := by rw [IntKind.wrap_u64]; omega
  have hx := fun xo yo => xor_u64 Tryz.prog 170 xo yo h c.toNat hh (by omega)
  have hm : IntKind.u64.wrap (((h ^^^ c.toNat : Nat) : Int) * 1099511628211) = (hashS h c : Int) := by
    rw [IntKind.wrap_u64]
    unfold hashS
    omega
  refine AC.of_body Tryz.func158 rfl Tryz.ntmps158 (by simp) fun C hC => ?_
  refine Gs.sq (Gs.rg [0, 1] fun K hK => ?_); simp (maxSteps:=9^7) only [go_sem]
  refine hK _ _ ?_; clear hK K
  refine Gs.sq (Gs.rg [0, 1] fun K hK => ?_); simp (maxSteps:=9^7) only [go_sem, bD, hw, hx, hm]
  refine hK _ _ ?_; clear hK K
  refine Gs.ret hC Tryz.func158 (by simp [go_sem]) ?_
  simp only [go_sem]
theorem hashS_lt (h : Nat) (c : UInt8) : hashS h c < 18446744073709551616 := Nat.mod_lt _ (by omega)
theorem hashT_succ (l : List UInt8) (i : Nat) (h : i < l.length) : hashN (l.take (i + 1)) = hashS (hashN (l.take i)) l[i] := by
  unfold hashN
  rw [List.take_succ_eq_append_getElem h, List.foldl_append, List.foldl_cons, List.foldl_nil]
theorem hashN_lt (l : List UInt8) : hashN l < 18446744073709551616 := by
  have key : ∀ (l : List UInt8) (h : Nat), h < 18446744073709551616 → l.foldl hashS h < 18446744073709551616 := by
    intro l
    induction l with
    | nil => intro h hh; exact hh
    | cons c l ih => intro h _; exact ih _ (hashS_lt h c)
  exact key l _ (by omega)
theorem fold_calls (o : Option Nat) (l : List UInt8) (σ : Store) (hg : oget 1 o σ = some (l.map bD)) (hl : l.length < 2 ^ 40) :
    AC Tryz.prog 159 [.v (.int .u64 14695981039346656037), .own o 1 l.length, .clo (.func 158) [] []] σ (fun e σ' => e = .ret (.v (.int .u64 (hashN l : Int))) ∧ σ' = σ) := by
  have hll : (l.map bD).length = l.length := List.length_map ..
  cases o with
  | none =>
    have : l = [] := by
      simp only [oget, Option.some.injEq] at hg
      simpa using hg.symm
    subst this
    refine AC.of_body Tryz.func159 rfl Tryz.ntmps159 (by simp) fun C hC => ?_
    refine Gs.sq (Gs.rg [0, 1, 2] fun K hK => ?_); simp (maxSteps:=9^7) only [go_sem]
    refine hK _ _ ?_; clear hK K
    refine Gs.sq (Gs.sq ?_)
    refine Gs.rg [0, 1, 2] fun K hK => ?_; simp (maxSteps:=9^7) only [go_sem]
    refine hK _ _ ?_; clear hK K
    refine Gs.bk ?_
    refine Gs.rebase [0, 2, 9, 10, 11] ?_
    simp only [go_sem]
    refine Gs.while (fun (i : Nat) env' σ'' => (True) ∧ env' = [(0, .v (.int .u64 14695981039346656037)), (2, .clo (.func 158) [] []), (9, .own none 1 0), (10, .v (.int .i64 0)), (11, .v (.int .i64 0))] ∧ σ = σ'') (fun (i : Nat) => 0) 0 ⟨trivial, rfl, rfl⟩ ?_
    rintro i env' σ'' ⟨-, rfl, rfl⟩ ih
    have ih1 := ih
    refine Gs.sq (Gs.rg [0, 2, 9, 10, 11] fun K hK => ?_); simp (maxSteps:=9^7) only [go_sem]
    refine hK _ _ ?_; clear hK K
    refine Gs.sq ?_
    refine Gs.condF rfl ?_
    refine Gs.exit rfl ?_
    refine Gs.sq (Gs.rg [0] fun K hK => ?_); simp (maxSteps:=9^7) only [go_sem]
    refine hK _ _ ?_; clear hK K
    refine Gs.ret hC Tryz.func159 (by simp [go_sem]) ?_
    simp only [go_sem]
    rfl
  | some b =>
    have hb : sget b σ = some (.arr 1 (l.map bD)) := by
      simp only [oget] at hg
      split at hg
      · rename_i s xs hs
        split at hg
        · rename_i h1
          cases hg; subst h1; exact hs
        · cases hg
      · cases hg
    refine AC.of_body Tryz.func159 rfl Tryz.ntmps159 (by simp) fun C hC => ?_
    refine Gs.sq (Gs.rg [0, 1, 2] fun K hK => ?_); simp (maxSteps:=9^7) only [go_sem]
    refine hK _ _ ?_; clear hK K
    refine Gs.sq (Gs.sq ?_)
    refine Gs.rg [0, 1, 2] fun K hK => ?_; simp (maxSteps:=9^7) only [go_sem]
    refine hK _ _ ?_; clear hK K
    refine Gs.bk ?_
    refine Gs.rebase [0, 2, 9, 10, 11] ?_
    simp only [go_sem]
    refine Gs.while (fun (i : Nat) env' σ'' => (i ≤ l.length) ∧ env' = [(0, .v (.int .u64 (hashN (l.take i) : Int))), (2, .clo (.func 158) [] []), (9, .own (some b) 1 l.length), (10, .v (.int .i64 (l.length : Int))), (11, .v (.int .i64 (i : Int)))] ∧ σ = σ'') (fun (i : Nat) => l.length - i) 0 ⟨by omega, rfl, rfl⟩ ?_
    rintro i env' σ'' ⟨hi, rfl, rfl⟩ ih
    have ih1 := ih
    refine Gs.sq (Gs.rg [0, 2, 9, 10, 11] fun K hK => ?_); simp (maxSteps:=9^7) only [go_sem]
    refine hK _ _ ?_; clear hK K
    refine Gs.sq ?_
    refine Gs.cond rfl (fun h12 => ?_) (fun h12 => ?_)
    · have hlt : i < l.length := by simpa using h12
      have hgx := getD_map_lt bD l i hlt
      have hi0 : (0 : Int) ≤ (i : Int) := by omega
      have hi1 : (i : Int) < (l.length : Int) := by omega
      have hsu := hashT_succ l i hlt
      have hbc : ∀ c, (bD c).cells = [bD c] := fun _ => rfl
      have hbp : ∀ c, (bD c).plain = true := fun _ => rfl
      refine Gs.sk ?_
      refine Gs.sq ?_
      refine Gs.bk ?_
      refine Gs.sq (Gs.rg [0, 2, 9, 10, 11] fun K hK => ?_); simp (maxSteps:=9^7) only [go_sem, hgx, hi0, hi1, hb, hll, hlt, hbc, hbp]
      refine hK _ _ ?_; clear hK K
      refine Gs.rg [0, 2, 8, 9, 10, 11] fun K hK => ?_; simp (maxSteps:=9^7) only [go_sem]
      refine ⟨_, Tryz.call158, (hash1_calls (hashN (l.take i)) (hashN_lt _) l[i] _).mono ?_⟩
      rintro e σ1 ⟨rfl, rfl⟩
      simp only [go_sem]
      refine hK _ _ ?_; clear hK K
      refine Gs.ib ?_
      refine Gs.rg [0, 2, 9, 10, 11] fun K hK => ?_; simp (maxSteps:=9^7) only [go_sem]
      refine hK _ _ ?_; clear hK K
      refine Gs.rebase [0, 2, 9, 10, 11] ?_
      simp only [go_sem]
      rw [wrap_succ i (by omega), ← hsu]
      exact ih (i + 1) _ _ ⟨by omega, rfl, rfl⟩ (by omega)
    · have hie : i = l.length := by simp at h12; omega
      subst hie
      refine Gs.exit rfl ?_
      refine Gs.sq (Gs.rg [0] fun K hK => ?_); simp (maxSteps:=9^7) only [go_sem]
      refine hK _ _ ?_; clear hK K
      refine Gs.ret hC Tryz.func159 (by simp [go_sem]) ?_
      simp only [go_sem]
      rw [List.take_length]
theorem hash_calls (o : Option Nat) (l : List UInt8) (σ : Store) (hg : oget 1 o σ = some (l.map bD)) (hl : l.length < 2 ^ 40) :
    AC Tryz.prog 135 [.own o 1 l.length] σ (fun e σ' => e = .ret (.v (.int .u64 (hashN l : Int))) ∧ σ' = σ) := by
  refine AC.of_body Tryz.func135 rfl Tryz.ntmps135 (by simp) fun C hC => ?_
  refine Gs.sq (Gs.rg [0] fun K hK => ?_); simp (maxSteps:=9^7) only [go_sem]
  refine hK _ _ ?_; clear hK K
  refine Gs.sq (Gs.rg [0] fun K hK => ?_); simp (maxSteps:=9^7) only [go_sem]
  refine hK _ _ ?_; clear hK K
  refine Gs.sq (Gs.rg [0, 3] fun K hK => ?_); simp (maxSteps:=9^7) only [go_sem]
  refine ⟨_, Tryz.call159, (fold_calls o l _ hg hl).mono ?_⟩
  rintro e σ1 ⟨rfl, rfl⟩
  simp only [go_sem]
  refine hK _ _ ?_; clear hK K
  refine Gs.ret hC Tryz.func135 (by simp [go_sem]) ?_
  simp only [go_sem]
end Go.Ab.S16
namespace Go.Ab
open Go
variable {P : Program} {N : Slots} {C : Ctx P N} {todo : List Item} {env : Env} {ρ : Store}
theorem flat_cell1 {cs : List D} (h : ∀ c ∈ cs, c.cells = [c]) : flat cs = cs := by
  induction cs with
  | nil => rfl
  | cons c cs ih => rw [flat_cons, h c (by simp), ih fun d hd => h d (by simp [hd])]; rfl
theorem Gs.retype (k : Nat) {b n : Nat} {cs : List D} (hk : eget k env = .ptr b n 0 0) (hc : ∀ c ∈ cs, c.cells = [c]) (h : Gs C todo (eput k (.ptr b 1 0 0) env) ((b, .arr 1 cs) :: ρ)) : Gs C todo env ((b, .arr n [.agg cs]) :: ρ) := by
  have h2 : Gs C todo env ((b, .arr 1 cs) :: ρ) := by
    refine Gs.env_le h fun j => ?_
    rw [eget_eput]
    split
    · rename_i hj
      rw [hj, hk]
      intro w S v hv
      cases hv with
      | ptr =>
        have := @Rep.ptr w S b 1 0 0
        simpa using this
    · exact DLe.refl _
  intro a w S hd hsim
  refine h2 a w S hd ⟨hsim.env, fun c o hcc => ?_, { hsim.fr with dom := fun c hcc => hsim.fr.dom c ?_ }, hsim.size⟩
  · rw [sget_cons] at hcc
    by_cases hcb : c = b
    · rw [if_pos hcb] at hcc
      cases hcc
      obtain ⟨h1, c', e, lo, hi, vals, h2, h3, h4, h5, h6⟩ := hsim.store c (.arr n [.agg cs]) (by rw [sget_cons, if_pos hcb])
      have e1 : flat [D.agg cs] = cs := by simp [flat, D.cells]
      rw [e1] at h3
      exact ⟨h1, c', e, lo, hi, vals, h2, by rw [flat_cell1 hc]; exact h3, h4, fun x hx => by rw [hc x hx]; rfl, h6⟩
    · rw [if_neg hcb] at hcc
      exact hsim.store c o (by rw [sget_cons, if_neg hcb]; exact hcc)
  · unfold sdom at *
    rw [sget_cons] at hcc ⊢
    split at hcc <;> simp_all
end Go.Ab
namespace Go.Ab.S16
open Go Go.Proofs
def tabL : List D := match evg 3 with | .elt cs => cs | _ => []
theorem tab_ev : evg 3 = .elt tabL := by kernel_rfl
theorem tab_drop : tabL.drop 15 = .v (.int .u8 4) :: tabL.drop 16 := by kernel_rfl
theorem tab_len : tabL.length = 64 := by kernel_rfl
theorem neg16 : aUn Tryz.prog .neg (.v (.int .u64 16)) = .val True (.v (.int .u64 18446744073709551600)) := by kernel_rfl
theorem and16 (xo yo : Operand) : aBin Tryz.prog .and 170 xo yo (.v (.int .u64 16)) (.v (.int .u64 18446744073709551600)) = .val True (.v (.int .u64 16)) := by kernel_rfl
theorem mul16 (xo yo : Operand) : aBin Tryz.prog .mul 170 xo yo (.v (.int .u64 16)) (.v (.int .u64 285870213051353865)) = .val True (.v (.int .u64 4573923408821661840)) := by kernel_rfl
theorem shr16 (xo yo : Operand) : aBin Tryz.prog .shr 170 xo yo (.v (.int .u64 4573923408821661840)) (.v (.int .u64 58)) = .val True (.v (.int .u64 15)) := by kernel_rfl
theorem wrap4 : IntKind.i64.wrap 4 = 4 := by rw [IntKind.wrap_i64]; omega
theorem wrapu4 : IntKind.u64.wrap 4 = 4 := by rw [IntKind.wrap_u64]; omega
theorem wrapu16 : IntKind.u64.wrap 16 = 16 := by rw [IntKind.wrap_u64]; omega
theorem wrapu15 : IntKind.u64.wrap (16 - 1) = 15 := by rw [IntKind.wrap_u64]; omega
theorem tz64_calls (σ : Store) : AC Tryz.prog 214 [.v (.int .u64 16)] σ (fun e σ' => e = .ret (.v (.int .i64 4)) ∧ σ' = σ) := by
  refine AC.of_body Tryz.func214 rfl Tryz.ntmps214 (by simp) fun C hC => ?_
  refine Gs.sq (Gs.rg [0] fun K hK => ?_); simp (maxSteps:=9^7) only [go_sem]
  refine hK _ _ ?_; clear hK K
  refine Gs.sq (Gs.sq ?_)
  refine Gs.rg [0] fun K hK => ?_; simp (maxSteps:=9^7) only [go_sem]
  refine hK _ _ ?_; clear hK K
  refine Gs.condF rfl ?_
  refine Gs.sk ?_
  refine Gs.sq (Gs.rg [0] fun K hK => ?_); simp (maxSteps:=9^7) only [go_sem, neg16, and16, mul16, shr16, tab_ev, tab_drop, tab_len, wrap4]
  refine ⟨by decide, by omega, ?_⟩
  refine hK _ _ ?_; clear hK K
  refine Gs.ret hC Tryz.func214 (by simp [go_sem]) ?_
  simp only [go_sem]
theorem tz_calls (σ : Store) : AC Tryz.prog 207 [.v (.int .u64 16)] σ (fun e σ' => e = .ret (.v (.int .i64 4)) ∧ σ' = σ) := by
  refine AC.of_body Tryz.func207 rfl Tryz.ntmps207 (by simp) fun C hC => ?_
  refine Gs.sq (Gs.rg [0] fun K hK => ?_); simp (maxSteps:=9^7) only [go_sem]
  refine hK _ _ ?_; clear hK K
  refine Gs.sq ?_
  refine Gs.condF rfl ?_
  refine Gs.sk ?_
  refine Gs.sq (Gs.rg [0] fun K hK => ?_); simp (maxSteps:=9^7) only [go_sem]
  refine ⟨_, Tryz.call214, (tz64_calls _).mono ?_⟩
  rintro e σ1 ⟨rfl, rfl⟩
  simp only [go_sem]
  refine hK _ _ ?_; clear hK K
  refine Gs.ret hC Tryz.func207 (by simp [go_sem]) ?_
  simp only [go_sem]
theorem pow2_calls (σ : Store) : AC Tryz.prog 206 [.v (.int .i64 16)] σ (fun e σ' => e = .ret (.v (.bool true)) ∧ σ' = σ) := by
  have h1 : IntKind.i64.wrap (16 - 1) = 15 := by rw [IntKind.wrap_i64]; omega
  have h2 : ∀ xo yo, aBin Tryz.prog .and 3 xo yo (.v (.int .i64 16)) (.v (.int .i64 15)) = .val True (.v (.int .i64 0)) := fun xo yo => by kernel_rfl
  refine AC.of_body Tryz.func206 rfl Tryz.ntmps206 (by simp) fun C hC => ?_
  refine Gs.sq (Gs.rg [0] fun K hK => ?_); simp (maxSteps:=9^7) only [go_sem]
  refine hK _ _ ?_; clear hK K
  refine Gs.sq (Gs.rg [0] fun K hK => ?_); simp (maxSteps:=9^7) only [go_sem, h1, h2]
  refine hK _ _ ?_; clear hK K
  refine Gs.ret hC Tryz.func206 (by simp [go_sem]) ?_
  simp only [go_sem]
def digB (n : Nat) : UInt8 := [48, 49, 50, 51, 52, 53, 54, 55, 56, 57, 97, 98, 99, 100, 101, 102, 103, 104, 105, 106, 107, 108, 109, 110, 111, 112, 113, 114, 115, 116, 117, 118, 119, 120, 121, 122].getD n 0
def hexD (u : Nat) : List UInt8 := if h : u < 16 then [digB u] else hexD (u / 16) ++ [digB (u % 16)]
theorem hexD_big (u : Nat) (h : 16 ≤ u) : hexD u = hexD (u / 16) ++ [digB (u % 16)] := by
  rw [hexD, dif_neg (by omega)]
theorem hexD_small (u : Nat) (h : u < 16) : hexD u = [digB u] := by
  rw [hexD, dif_pos h]
theorem shr4 (xo yo : Operand) (v : Nat) : aBin Tryz.prog .shr 170 xo yo (.v (.int .u64 (v : Int))) (.v (.int .u64 4)) = .val True (.v (.int .u64 ((v / 16 : Nat) : Int))) := by
  have h := bin_shr (P := Tryz.prog) (T := 170) (x := xo) (y := yo) .u64 .u64 (v : Int) 4
  have h2 : (v : Int).fdiv (2 ^ min 4 IntKind.u64.bits) = ((v / 16 : Nat) : Int) := by
    rw [show (2 ^ min 4 IntKind.u64.bits : Int) = 16 from rfl, Int.fdiv_eq_ediv_of_nonneg _ (by omega)]
    omega
  rw [h2] at h
  exact h
theorem and15 (xo yo : Operand) (u : Nat) (h : u < 18446744073709551616) : aBin Tryz.prog .and 146 xo yo (.v (.int .u64 (u : Int))) (.v (.int .u64 15)) = .val True (.v (.int .u64 ((u % 16 : Nat) : Int))) := by
  have h2 : IntKind.u64.wrap ((u % 2 ^ IntKind.u64.bits &&& 15 % 2 ^ IntKind.u64.bits : Nat) : Int) = ((u % 16 : Nat) : Int) := by
    rw [show IntKind.u64.bits = 64 from rfl, Nat.mod_eq_of_lt (by omega), show 15 % 2 ^ 64 = 2 ^ 4 - 1 from rfl, Nat.and_two_pow_sub_one_eq_mod, IntKind.wrap_u64]
    omega
  simp [aBin, ifcNil, aBin0, toV, scal, eqGuard, binOp, Op.intBits, okV, ofV, purely_pure]
  exact h2
theorem bits_calls (u : Nat) (hu : u < 18446744073709551616) (σ : Store) : AC Tryz.prog 189 [.v (.slice none 0 0), .v (.int .u64 (u : Int)), .v (.int .i64 16), .v (.bool false), .v (.bool false)] σ (fun e σ' => e = .ret (.tup [.v (.slice none 0 0), .v (.string ⟨(hexD u).toArray⟩)]) ∧ σ' = σ) := by
  refine AC.still ?_ σ
  refine AC.forget (R := fun e _ => e = .ret (.tup [.v (.slice none 0 0), .v (.string ⟨(hexD u).toArray⟩)])) ?_ fun e σ' h => ⟨[], SLe.nil _, h, rfl⟩
  refine AC.of_body Tryz.func189 rfl Tryz.ntmps189 (by simp) fun C hC => ?_
  refine Gs.sq (Gs.rg [0, 1, 2, 3, 4] fun K hK => ?_); simp (maxSteps:=9^7) only [go_sem]
  refine hK _ _ ?_; clear hK K
  refine Gs.sq (Gs.sq ?_)
  refine Gs.rg [0, 1, 2, 3, 4, 10, 11] fun K hK => ?_; simp (maxSteps:=9^7) only [go_sem]
  refine hK _ _ ?_; clear hK K
  refine Gs.condF rfl ?_
  refine Gs.sk ?_
  refine Gs.sq (Gs.rg [0, 1, 2, 3, 4, 10, 11] fun K hK => ?_); simp (maxSteps:=9^7) only [go_sem]
  refine ⟨?_, fun ba => ?_⟩
  · simp [D.cell, D.cells]
  refine hK _ _ ?_; clear hK K
  refine Gs.retype 12 rfl (by simp [D.cells]) ?_
  change Gs C _ _ [(ba, .arr 1 ((List.replicate 65 (0 : UInt8)).map bD))]
  obtain ⟨x0, hx0, hxl0⟩ : ∃ xs : List UInt8, List.replicate 65 (0 : UInt8) = xs ∧ xs.length = 65 := ⟨_, rfl, rfl⟩
  rw [hx0]
  refine Gs.sq (Gs.rg [0, 1, 2, 3, 4, 10, 11, 12] fun K hK => ?_); simp (maxSteps:=9^7) only [go_sem]
  refine hK _ _ ?_; clear hK K
  refine Gs.sq (Gs.sq ?_)
  refine Gs.rg [0, 1, 2, 3, 4, 10, 11, 12, 13] fun K hK => ?_; simp (maxSteps:=9^7) only [go_sem]
  refine hK _ _ ?_; clear hK K
  refine Gs.condF rfl ?_
  refine Gs.sk ?_
  refine Gs.sq (Gs.sq ?_)
  refine Gs.rg [0, 1, 2, 3, 4, 10, 11, 12, 13] fun K hK => ?_; simp (maxSteps:=9^7) only [go_sem]
  refine ⟨_, Tryz.call206, (pow2_calls _).mono ?_⟩
  rintro e σ1 ⟨rfl, rfl⟩
  simp only [go_sem]
  refine hK _ _ ?_; clear hK K
  refine Gs.condT rfl ?_
  refine Gs.sq (Gs.rg [0, 1, 2, 3, 4, 10, 11, 12, 13] fun K hK => ?_); simp (maxSteps:=9^7) only [go_sem, wrapu16, wrapu4]
  refine ⟨_, Tryz.call207, (tz_calls _).mono ?_⟩
  rintro e σ1 ⟨rfl, rfl⟩
  simp only [go_sem, wrapu4]
  refine hK _ _ ?_; clear hK K
  refine Gs.sq (Gs.rg [0, 1, 2, 3, 4, 10, 11, 12, 13, 14] fun K hK => ?_); simp (maxSteps:=9^7) only [go_sem, wrapu16]
  refine hK _ _ ?_; clear hK K
  refine Gs.sq (Gs.rg [0, 1, 2, 3, 4, 10, 11, 12, 13, 14, 15] fun K hK => ?_); simp (maxSteps:=9^7) only [go_sem, wrapu16, wrapu15]
  refine hK _ _ ?_; clear hK K
  refine Gs.sq ?_
  refine Gs.bk ?_
  refine Gs.rebase [0, 1, 3, 4, 10, 11, 12, 13, 14, 15, 16] ?_
  simp only [go_sem]
  refine Gs.while (fun (v : Nat) env' σ'' => ∃ i : Nat, ∃ xs : List UInt8, (50 ≤ i ∧ i ≤ 65 ∧ xs.length = 65 ∧ v < 16 ^ (i - 49) ∧ hexD v ++ xs.drop i = hexD u) ∧ env' = [(0, .v (.slice none 0 0)), (1, .v (.int .u64 (v : Int))), (3, .v (.bool false)), (4, .v (.bool false)), (10, .v (.slice none 0 0)), (11, .v (.string ⟨#[]⟩)), (12, .ptr ba 1 0 0), (13, .v (.int .i64 (i : Int))), (14, .v (.int .u64 4)), (15, .v (.int .u64 16)), (16, .v (.int .u64 15))] ∧ σ'' = [(ba, .arr 1 (xs.map bD))]) (fun (v : Nat) => v) u ⟨65, x0, ⟨by omega, by omega, hxl0, by simpa using hu, by rw [List.drop_of_length_le (by omega), List.append_nil]⟩, rfl, rfl⟩ ?_
  rintro v env' σ'' ⟨i, xs, ⟨hi1, hi2, hxl, hv, hfin⟩, rfl, rfl⟩ ih
  have ih1 := ih
  have hp16 : 16 ^ (i - 49) ≤ 16 ^ 16 := Nat.pow_le_pow_right (by omega) (by omega)
  have hv64 : v < 18446744073709551616 := by omega
  have hwi : IntKind.i64.wrap ((i : Int) - 1) = ((i - 1 : Nat) : Int) := by rw [IntKind.wrap_i64]; omega
  have ha := fun xo yo => and15 xo yo v hv64
  have hml : (xs.map bD).length = 65 := by rw [List.length_map, hxl]
  have hix : ((i - 1 : Nat) : Int) < 65 := by omega
  have hi0 : (0 : Int) ≤ ((i - 1 : Nat) : Int) := by omega
  have hil : i - 1 < 65 := by omega
  refine Gs.sq (Gs.sq ?_)
  refine Gs.rg [0, 1, 3, 4, 10, 11, 12, 13, 14, 15, 16] fun K hK => ?_; simp (maxSteps:=9^7) only [go_sem]
  refine hK _ _ ?_; clear hK K
  refine Gs.cond rfl (fun h46 => ?_) (fun h46 => ?_)
  · have hge : 16 ≤ v := by
      have : (16 : Int) ≤ (v : Int) := by simpa using h46
      omega
    have hdv : (bD (digB (v % 16))) = D.v (Value.int .u8 ((digB (v % 16)).toNat : Int)) := rfl
    have hxi : i - 1 < xs.length := by omega
    have hgi : ((xs.map bD).getD (i - 1) .any) = .v (.int .u8 (xs[i - 1].toNat : Int)) := getD_map_lt bD xs (i - 1) hxi
    have hs4 := fun xo yo => shr4 xo yo v
    refine Gs.sk ?_
    refine Gs.bk ?_
    refine Gs.sq (Gs.rg [0, 1, 3, 4, 10, 11, 12, 13, 14, 15, 16] fun K hK => ?_); simp (maxSteps:=9^7) only [go_sem, hwi]
    refine hK _ _ ?_; clear hK K
    refine Gs.sq (Gs.rg [0, 1, 3, 4, 10, 11, 12, 13, 14, 15, 16] fun K hK => ?_); simp (maxSteps:=9^7) only [go_sem, ha, hml, hix, hi0, hil, Nat.zero_add, hgi]
    refine ⟨⟨by omega, by
      show _ < ((36 : Nat) : Int)
      omega⟩, hix, ?_⟩
    refine hK _ _ ?_; clear hK K
    change Gs C _ _ [(ba, .arr 1 ((xs.map bD).set (i - 1) (bD (digB (v % 16)))))]
    have hrow : (xs.map bD).set (i - 1) (bD (digB (v % 16))) = (xs.set (i - 1) (digB (v % 16))).map bD := by rw [List.map_set]
    rw [hrow]
    refine Gs.rg [0, 1, 3, 4, 10, 11, 12, 13, 14, 15, 16] fun K hK => ?_; simp (maxSteps:=9^7) only [go_sem, hs4]
    refine hK _ _ ?_; clear hK K
    refine Gs.ib ?_
    refine Gs.rebase [0, 1, 3, 4, 10, 11, 12, 13, 14, 15, 16] ?_
    simp only [go_sem]
    have hv2 : v / 16 < 16 ^ (i - 1 - 49) := by
      rw [Nat.div_lt_iff_lt_mul (by omega), ← Nat.pow_succ]
      rw [show (i - 1 - 49).succ = i - 49 by omega]
      exact hv
    have hi50 : 50 ≤ i - 1 := by
      rcases Nat.lt_or_ge i 51 with h | h
      · have : i - 49 = 1 := by omega
        rw [this] at hv
        omega
      · omega
    refine ih (v / 16) _ _ ⟨i - 1, xs.set (i - 1) (digB (v % 16)), ⟨hi50, by omega, by rw [List.length_set, hxl], hv2, ?_⟩, rfl, rfl⟩ (by omega)
    rw [← hfin, hexD_big v hge, List.append_assoc]
    congr 1
    rw [List.drop_eq_getElem_cons (by rw [List.length_set]; exact hxi), List.getElem_set_self, List.drop_set_of_lt (by omega), show i - 1 + 1 = i by omega]
    rfl
  · have hlt16 : v < 16 := by
      have : ¬ (16 : Int) ≤ (v : Int) := by simpa using h46
      omega
    have hxi : i - 1 < xs.length := by omega
    have hgi : ((xs.map bD).getD (i - 1) .any) = .v (.int .u8 (xs[i - 1].toNat : Int)) := getD_map_lt bD xs (i - 1) hxi
    refine Gs.exit rfl ?_
    refine Gs.sq (Gs.rg [0, 1, 3, 4, 10, 11, 12, 13] fun K hK => ?_); simp (maxSteps:=9^7) only [go_sem, hwi]
    refine hK _ _ ?_; clear hK K
    refine Gs.rg [0, 1, 3, 4, 10, 11, 12, 13] fun K hK => ?_; simp (maxSteps:=9^7) only [go_sem, hml, hix, hi0, hil, Nat.zero_add, hgi]
    refine ⟨⟨by omega, by
      show _ < ((36 : Nat) : Int)
      omega⟩, hix, ?_⟩
    refine hK _ _ ?_; clear hK K
    change Gs C _ _ [(ba, .arr 1 ((xs.map bD).set (i - 1) (bD (digB v))))]
    have hrow : (xs.map bD).set (i - 1) (bD (digB v)) = (xs.set (i - 1) (digB v)).map bD := by rw [List.map_set]
    rw [hrow]
    have hres : (xs.set (i - 1) (digB v)).drop (i - 1) = hexD u := by
      rw [← hfin, hexD_small v hlt16, List.drop_eq_getElem_cons (by rw [List.length_set]; exact hxi), List.getElem_set_self, List.drop_set_of_lt (by omega), show i - 1 + 1 = i by omega]
      rfl
    obtain ⟨ys, hys, hyl⟩ : ∃ ys : List UInt8, xs.set (i - 1) (digB v) = ys ∧ ys.length = 65 := ⟨_, rfl, by rw [List.length_set, hxl]⟩
    rw [hys] at hres ⊢
    refine Gs.sq (Gs.sq ?_)
    refine Gs.rg [0, 3, 4, 10, 11, 12, 13] fun K hK => ?_; simp (maxSteps:=9^7) only [go_sem]
    refine hK _ _ ?_; clear hK K
    refine Gs.condF rfl ?_
    refine Gs.sk ?_
    refine Gs.sq (Gs.sq ?_)
    refine Gs.rg [0, 4, 10, 11, 12, 13] fun K hK => ?_; simp (maxSteps:=9^7) only [go_sem]
    refine hK _ _ ?_; clear hK K
    refine Gs.condF rfl ?_
    refine Gs.sk ?_
    refine Gs.sq (Gs.rg [10, 12, 13] fun K hK => ?_); simp (maxSteps:=9^7) only [go_sem]
    have hyl2 : (ys.map bD).length = 65 := by rw [List.length_map, hyl]
    refine ⟨⟨hi0, by omega, by omega, by omega⟩, ⟨fun x hx => ?_, by omega⟩, ?_⟩
    · obtain ⟨c, _, rfl⟩ := List.mem_map.1 hx
      have := c.toNat_lt
      simp only [bD, decide_eq_true_eq]
      omega
    have hb : bytesOf (List.take (((65 : Nat) : Int) - ((i - 1 : Nat) : Int)).toNat (List.drop (0 + (i - 1)) (ys.map bD))) = ⟨(hexD u).toArray⟩ := by
      rw [Nat.zero_add, List.take_of_length_le (by rw [List.length_drop, hyl2]; omega), ← List.map_drop, hres]
      exact bytesOf_bD _
    rw [hb]
    refine hK _ _ ?_; clear hK K
    refine Gs.ret hC Tryz.func189 (by simp [go_sem]) ?_
    simp only [go_sem]
theorem ifmt_calls (u : Nat) (hu : u < 18446744073709551616) (σ : Store) : AC Tryz.prog 157 [.v (.int .u64 (u : Int)), .v (.int .i64 16)] σ (fun e σ' => e = .ret (.v (.string ⟨(hexD u).toArray⟩)) ∧ σ' = σ) := by
  refine AC.of_body Tryz.func157 rfl Tryz.ntmps157 (by simp) fun C hC => ?_
  refine Gs.sq (Gs.rg [0, 1] fun K hK => ?_); simp (maxSteps:=9^7) only [go_sem]
  refine hK _ _ ?_; clear hK K
  refine Gs.sq (Gs.sq ?_)
  refine Gs.rg [0, 1] fun K hK => ?_; simp (maxSteps:=9^7) only [go_sem]
  refine hK _ _ ?_; clear hK K
  refine Gs.condF rfl ?_
  refine Gs.sk ?_
  refine Gs.sq (Gs.rg [0, 1] fun K hK => ?_); simp (maxSteps:=9^7) only [go_sem]
  refine ⟨_, Tryz.call189, (bits_calls u hu _).mono ?_⟩
  rintro e σ1 ⟨rfl, rfl⟩
  simp only [go_sem]
  refine hK _ _ ?_; clear hK K
  refine Gs.sq (Gs.rg [8] fun K hK => ?_); simp (maxSteps:=9^7) only [go_sem]
  refine hK _ _ ?_; clear hK K
  refine Gs.ret hC Tryz.func157 (by simp [go_sem]) ?_
  simp only [go_sem]
theorem fmt_calls (u : Nat) (hu : u < 18446744073709551616) (σ : Store) : AC Tryz.prog 134 [.v (.int .u64 (u : Int)), .v (.int .i64 16)] σ (fun e σ' => e = .ret (.v (.string ⟨(hexD u).toArray⟩)) ∧ σ' = σ) := by
  refine AC.of_body Tryz.func134 rfl Tryz.ntmps134 (by simp) fun C hC => ?_
  refine Gs.sq (Gs.rg [0, 1] fun K hK => ?_); simp (maxSteps:=9^7) only [go_sem]
  refine hK _ _ ?_; clear hK K
  refine Gs.sq (Gs.rg [0, 1] fun K hK => ?_); simp (maxSteps:=9^7) only [go_sem]
  refine ⟨_, Tryz.call157, (ifmt_calls u hu _).mono ?_⟩
  rintro e σ1 ⟨rfl, rfl⟩
  simp only [go_sem]
  refine hK _ _ ?_; clear hK K
  refine Gs.ret hC Tryz.func134 (by simp [go_sem]) ?_
  simp only [go_sem]
theorem hexD_len : ∀ (k u : Nat), u < 16 ^ (k + 1) → 1 ≤ (hexD u).length ∧ (hexD u).length ≤ k + 1
  | 0, u, h => by
    rw [hexD_small u (by simpa using h)]
    simp
  | k + 1, u, h => by
    by_cases hs : u < 16
    · rw [hexD_small u hs]; simp
    · have h2 := hexD_len k (u / 16) (by rw [Nat.div_lt_iff_lt_mul (by omega), ← Nat.pow_succ]; exact h)
      rw [hexD_big u (by omega), List.length_append]
      simp only [List.length_singleton]
      omega
def sumT (l : List UInt8) : List UInt8 := List.replicate (16 - (hexD (hashN l)).length) 48 ++ hexD (hashN l) ++ [10]
def allU (decl : List ByteArray) (files : List XFile) : List ByteArray → List UInt8 → Option (List UInt8)
  | [], out => some out
  | n :: r, out => (argF decl files n).bind fun b => allU decl files r (out ++ b)
def sumF (decl : List ByteArray) (files : List XFile) (args : List ByteArray) : Option (List UInt8) := if args.length > 0 then (allU decl files args []).map sumT else none
theorem repeatL_one (c : Nat) : Lib.repeatL ([48] : List UInt8) c = List.replicate c 48 := by
  induction c with
  | zero => rfl
  | succ c ih => rw [Lib.repeatL, ih, List.replicate_succ]; rfl
theorem sadd (xo yo : Operand) (a b : List UInt8) (h : a.length + b.length < 2 ^ 60) : aBin Tryz.prog .add 9 xo yo (.v (.string ⟨a.toArray⟩)) (.v (.string ⟨b.toArray⟩)) = .val True (.v (.string ⟨(a ++ b).toArray⟩)) := by
  have hs : ∀ l : List UInt8, (⟨l.toArray⟩ : ByteArray).size = l.length := fun l => by
    show l.toArray.size = _
    simp
  have h1 := bin_sadd (P := Tryz.prog) (T := 9) (x := xo) (y := yo) ⟨a.toArray⟩ ⟨b.toArray⟩ (by rw [hs, hs]; omega)
  rw [h1]
  have h2 : (⟨a.toArray⟩ : ByteArray) ++ ⟨b.toArray⟩ = ⟨(a ++ b).toArray⟩ := by
    have : ∀ x y : ByteArray, x.data = y.data → x = y := fun x y h => by cases x; cases y; cases h; rfl
    apply this
    rw [ByteArray.data_append]
    simp
  rw [h2]
theorem sum_calls (args decl : List ByteArray) (files : List XFile) (found : D) (many : Int) (bc : Nat) (σ : Store) (hc : sget bc σ = some (ckR args decl files found many)) (hl : files.length < 2 ^ 31) (hb : ∀ f ∈ files, f.b.length < 2 ^ 20) (hd : decl.length < 2 ^ 40) (ha : args.length < 2 ^ 16) :
    AC Tryz.prog 108 [.ptr bc 5 0 0] σ (AR (sumF decl files args) (ownRet σ) σ) := by
  have hal : (args.map sD).length = args.length := List.length_map ..
  have hb40 : ∀ f ∈ files, f.b.length < 2 ^ 40 := fun f hf => Nat.lt_trans (hb f hf) (by decide)
  have hcc := hc
  unfold ckR at hc
  refine AC.of_body Tryz.func108 rfl Tryz.ntmps108 (by simp) fun C hC => ?_
  rcases Nat.eq_zero_or_pos args.length with h0 | hpos
  · have hsum : sumF decl files args = none := by unfold sumF; rw [if_neg (show ¬ args.length > 0 by omega)]
    have hdec : decide ((args.length : Int) > 0) = false := decide_eq_false (by omega)
    rw [hsum] at hC
    refine Gs.sq (Gs.rg [0] fun K hK => ?_); simp (maxSteps:=9^7) only [go_sem]
    refine hK _ _ ?_; clear hK K
    refine Gs.sq (Gs.rg [0] fun K hK => ?_); simp (maxSteps:=9^7) only [go_sem, hc, hal, hdec]
    refine ⟨_, Tryz.call81, (need_calls false _).mono ?_⟩
    rintro e σ1 ⟨rfl, rfl⟩
    simp only [go_sem]
    exact Pan.of hC Tryz.func108 ⟨rfl, SLe.refl _⟩
  · have hsum : sumF decl files args = (allU decl files args []).map sumT := by unfold sumF; rw [if_pos hpos]
    have hdec : decide ((args.length : Int) > 0) = true := decide_eq_true (by omega)
    rw [hsum] at hC
    refine Gs.sq (Gs.rg [0] fun K hK => ?_); simp (maxSteps:=9^7) only [go_sem]
    refine hK _ _ ?_; clear hK K
    refine Gs.sq (Gs.rg [0] fun K hK => ?_); simp (maxSteps:=9^7) only [go_sem, hc, hal, hdec]
    refine ⟨_, Tryz.call81, (need_calls true _).mono ?_⟩
    rintro e σ1 ⟨rfl, rfl⟩
    simp only [go_sem]
    refine hK _ _ ?_; clear hK K
    refine Gs.sq (Gs.rg [0] fun K hK => ?_); simp (maxSteps:=9^7) only [go_sem]
    refine hK _ _ ?_; clear hK K
    refine Gs.sq (Gs.sq ?_)
    refine Gs.rg [0, 3] fun K hK => ?_; simp (maxSteps:=9^7) only [go_sem, hc, hal]
    refine hK _ _ ?_; clear hK K
    refine Gs.bk ?_
    refine Gs.nilOwn 3 1 rfl ?_
    refine Gs.rebase [0, 3, 17, 18, 19] ?_
    simp only [go_sem]
    refine Gs.while (fun (i : Nat) env' σ'' => ∃ o : Option Nat, ∃ out : List UInt8, (i ≤ args.length ∧ GrD o 1 (out.map bD) σ1 ∧ allU decl files (args.drop i) out = allU decl files args [] ∧ out.length ≤ i * 2 ^ 20) ∧ env' = [(0, .ptr bc 5 0 0), (3, .own o 1 out.length), (17, .slc (args.map sD)), (18, .v (.int .i64 (args.length : Int))), (19, .v (.int .i64 (i : Int)))] ∧ σ'' = cellsOf o 1 (out.map bD) ++ σ1) (fun (i : Nat) => args.length - i) 0 ⟨none, [], ⟨by omega, GrD.nil _ _, rfl, by simp⟩, rfl, rfl⟩ ?_
    rintro i env' σ'' ⟨o, out, ⟨hi, hgr, hfin, hlo⟩, rfl, rfl⟩ ih
    have ih1 := ih
    have hobig : out.length ≤ 2 ^ 36 := Nat.le_trans hlo (Nat.le_trans (Nat.mul_le_mul_right _ (show i ≤ 2 ^ 16 by omega)) (by decide))
    refine Gs.sq (Gs.rg [0, 3, 17, 18, 19] fun K hK => ?_); simp (maxSteps:=9^7) only [go_sem]
    refine hK _ _ ?_; clear hK K
    refine Gs.sq ?_
    refine Gs.cond rfl (fun h20 => ?_) (fun h20 => ?_)
    · have hlt : i < args.length := by simpa using h20
      have hg := getD_map_lt sD args i hlt
      rw [sD] at hg
      have hi0 : (0 : Int) ≤ (i : Int) := by omega
      have hi1 : (i : Int) < ((args.map sD).length : Int) := by omega
      have hc2 := hgr.keep hcc
      have harg := argument_calls args decl files found many bc args[i] _ hc2 hl hb40 hd
      have hml : (out.map bD).length = out.length := List.length_map ..
      have htk : List.take out.length (out.map bD) = out.map bD := List.take_of_length_le (by omega)
      rw [List.drop_eq_getElem_cons hlt, allU] at hfin
      refine Gs.sk ?_
      refine Gs.sq ?_
      refine Gs.bk ?_
      refine Gs.sq (Gs.rg [0, 3, 17, 18, 19] fun K hK => ?_); simp (maxSteps:=9^7) only [go_sem, hg, hi0, hi1]
      refine hK _ _ ?_; clear hK K
      rcases hAF : argF decl files args[i] with _ | bs
      all_goals rw [hAF] at harg hfin
      · refine Gs.rg [0, 3, 5, 17, 18, 19] fun K hK => ?_; simp (maxSteps:=9^7) only [go_sem]
        refine ⟨_, Tryz.call133, harg.mono ?_⟩
        rintro e σ2 ⟨rfl, hsl⟩
        simp only [go_sem]
        exact Pan.of hC Tryz.func108 (by rw [← hfin]; exact ⟨rfl, fun b x hb => hsl b x (hgr.sle b x hb)⟩)
      · have hbl := argF_len hb hAF
        rw [Option.bind_some] at hfin
        refine Gs.rg [0, 3, 5, 17, 18, 19] fun K hK => ?_; simp (maxSteps:=9^7) only [go_sem]
        refine ⟨_, Tryz.call133, harg.mono ?_⟩
        rintro e σ2 ⟨o2, hgr2, rfl, rfl⟩
        have ho := grd_oget2 hgr hgr2
        have hd2 := grd_sdelo2 hgr hgr2
        have hs2 := hgr2.oget
        have hml2 : (bs.map bD).length = bs.length := List.length_map ..
        have htk2 : List.take (bs.map bD).length (bs.map bD) = bs.map bD := List.take_of_length_le (Nat.le_refl _)
        simp only [go_sem, ho, hd2, hs2, htk, htk2, Nat.le_refl]
        refine ⟨⟨by omega, plain_bD _, by omega, by omega⟩, fun ob hz hf => ?_⟩
        have hgo : GrD ob 1 (out.map bD ++ bs.map bD) (cellsOf o2 1 (bs.map bD) ++ σ1) := ⟨hf, hz⟩
        have hg2 : GrD o2 1 (bs.map bD) σ1 := ⟨fun c hc => by
          have h6 := hgr2.fresh c hc
          cases o with
          | none => exact h6
          | some k =>
            change sget c ((k, _) :: σ1) = none at h6
            exact (sget_none h6).2, hgr2.zero⟩
        have hdr := grd_dropO hgo hg2
        rw [← List.map_append] at hdr ⊢
        refine hK _ _ ?_; clear hK K
        refine Gs.le (ELe.refl _) hdr.2 ?_
        refine Gs.ib ?_
        refine Gs.rg [0, 3, 17, 18, 19] fun K hK => ?_; simp (maxSteps:=9^7) only [go_sem]
        refine hK _ _ ?_; clear hK K
        refine Gs.rebase [0, 3, 17, 18, 19] ?_
        simp only [go_sem]
        rw [wrap_succ i (by omega)]
        refine ih (i + 1) _ _ ⟨ob, out ++ bs, ⟨by omega, hdr.1, hfin, by rw [List.length_append]; omega⟩, ?_, rfl⟩ (by omega)
        simp only [List.length_append, List.length_map]
    · have hie : i = args.length := by simp at h20; omega
      subst hie
      rw [List.drop_length, allU] at hfin
      have hml : (out.map bD).length = out.length := List.length_map ..
      have hhl := hexD_len 15 (hashN out) (hashN_lt out)
      refine Gs.exit rfl ?_
      refine Gs.sq (Gs.rg [3] fun K hK => ?_); simp (maxSteps:=9^7) only [go_sem]
      refine ⟨_, Tryz.call135, (hash_calls o out _ hgr.oget (by omega)).mono ?_⟩
      rintro e σ1 ⟨rfl, rfl⟩
      simp only [go_sem]
      refine ⟨_, Tryz.call134, (fmt_calls (hashN out) (hashN_lt out) _).mono ?_⟩
      rintro e σ1 ⟨rfl, rfl⟩
      simp only [go_sem]
      refine hK _ _ ?_; clear hK K
      refine Gs.sq ?_
      have hsz : (⟨(hexD (hashN out)).toArray⟩ : ByteArray).size = (hexD (hashN out)).length := by
        show (hexD (hashN out)).toArray.size = _
        simp
      have hsub : IntKind.i64.wrap (16 - ((hexD (hashN out)).length : Int)) = ((16 - (hexD (hashN out)).length : Nat) : Int) := by rw [IntKind.wrap_i64]; omega
      have hadd1 := fun xo yo => sadd xo yo (Lib.repeatL [48] (16 - (hexD (hashN out)).length)) (hexD (hashN out)) (by rw [repeatL_one, List.length_replicate]; omega)
      have hadd2 := fun xo yo => sadd xo yo (Lib.repeatL [48] (16 - (hexD (hashN out)).length) ++ hexD (hashN out)) [10] (by rw [repeatL_one, List.length_append, List.length_replicate]; simp only [List.length_singleton]; omega)
      refine Gs.rg [6] fun K hK => ?_; simp (maxSteps:=9^7) only [go_sem, hsz, hsub]
      refine ⟨_, Tryz.call136, (repeat_calls ⟨#[48]⟩ (16 - (hexD (hashN out)).length) _ (by omega) (by show 1 * _ ≤ _; omega)).mono ?_⟩
      rintro e σ1 ⟨rfl, rfl⟩
      simp only [go_sem, hadd1, hadd2]
      have hst : Lib.repeatL [48] (16 - (hexD (hashN out)).length) ++ hexD (hashN out) ++ [10] = sumT out := by rw [repeatL_one]; rfl
      rw [hst]
      have hsl : (sumT out).length ≤ 33 := by unfold sumT; simp only [List.length_append, List.length_replicate, List.length_singleton]; omega
      have hts : (sumT out).toArray.size = ((sumT out).map bD).length := by simp
      rw [hts]
      refine ⟨by rw [List.length_map]; omega, fun b hbf => ?_⟩
      have hgb : GrD (some b) 1 ((sumT out).map bD) (cellsOf o 1 (out.map bD) ++ σ1) := ⟨fun c hc => by cases hc; exact hbf, nofun⟩
      have hdr := grd_dropO hgb hgr
      refine hK _ _ ?_; clear hK K
      refine Gs.le (ELe.refl _) hdr.2 ?_
      refine Gs.ret hC Tryz.func108 (by simp [go_sem]) ?_
      simp only [go_sem]
      rw [← hfin]
      exact ⟨some b, hdr.1, rfl, rfl⟩
def verbsM : List (Value × D) :=
  mset (.string ⟨#[102, 97, 105, 108]⟩) (.clo (.func 111) [] [])
    (mset (.string ⟨#[105, 110, 99]⟩) (.clo (.func 110) [] [])
      (mset (.string ⟨#[112, 117, 116]⟩) (.clo (.func 109) [] [])
        (mset (.string ⟨#[115, 117, 109]⟩) (.clo (.func 108) [] [])
          (mset (.string ⟨#[114, 101, 118]⟩) (.clo (.func 107) [] [])
            (mset (.string ⟨#[99, 97, 116]⟩) (.clo (.func 106) [] []) [])))))
def AllS (l : List (Value × D)) : Prop := ∀ e ∈ l, ∃ s, e.1 = .string s
theorem allS_nil : AllS [] := fun e he => by cases he
theorem mset_allS (s : ByteArray) (d : D) : ∀ {l : List (Value × D)}, AllS l → AllS (mset (.string s) d l)
  | [], _ => fun e he => by
    change e ∈ [(Value.string s, d)] at he
    simp only [List.mem_singleton] at he
    exact ⟨s, by rw [he]⟩
  | (k, v) :: r, h => fun e he => by
    rw [mset] at he
    split at he
    · rcases List.mem_cons.1 he with he | he
      · exact ⟨s, by rw [he]⟩
      · exact h e (by simp [he])
    · rcases List.mem_cons.1 he with he | he
      · exact ⟨_, by rw [he]; exact (h (k, v) (by simp)).choose_spec⟩
      · exact mset_allS s d (fun e he => h e (by simp [he])) e he
theorem allS_like {l : List (Value × D)} (h : AllS l) (s : ByteArray) : ∀ e ∈ l, keyLike .string (.string s) e.1 = true := fun e he => by
  obtain ⟨t, ht⟩ := h e he
  rw [ht]; rfl
theorem verbsM_all : AllS verbsM := mset_allS _ _ (mset_allS _ _ (mset_allS _ _ (mset_allS _ _ (mset_allS _ _ (mset_allS _ _ allS_nil)))))
theorem verbs_calls (σ : Store) : AC Tryz.prog 80 [] σ (fun e σ' => ∃ db, sget db σ = none ∧ e = .ret (.map db) ∧ σ' = (db, .mp verbsM) :: σ) := by
  refine AC.of_body Tryz.func80 rfl Tryz.ntmps80 (by simp) fun C hC => ?_
  refine Gs.sq (Gs.rg [] fun K hK => ?_); simp (maxSteps:=9^7) only [go_sem]
  refine hK _ _ ?_; clear hK K
  refine Gs.sq (Gs.rg [] fun K hK => ?_); simp (maxSteps:=9^7) only [go_sem]
  intro db hdb
  refine ⟨rfl, ⟨rfl, allS_like ?_ _⟩, ⟨rfl, allS_like ?_ _⟩, ⟨rfl, allS_like ?_ _⟩, ⟨rfl, allS_like ?_ _⟩, ⟨rfl, allS_like ?_ _⟩, ?_⟩
  iterate 5 (rotate_left)
  refine hK _ _ ?_; clear hK K
  rotate_left
  all_goals first | (repeat (first | exact allS_nil | apply mset_allS)); done | skip
  refine Gs.ret hC Tryz.func80 (by simp [go_sem]) ?_
  simp only [go_sem]
  exact ⟨db, hdb, rfl, rfl⟩
theorem deleteFunc_file0 (g : FuncId) (caps : List D) (p : XFile → Bool) (ρ : Store) (ht : TestsF caps g p [] ρ) :
    AC Tryz.prog 38 [.own none 2 0, .clo (.func g) [] caps] ρ (fun e σ' => e = .ret (.own none 2 0) ∧ σ' = ρ) := by
  have hix := (indexFunc_file [] g caps p ρ (by simp) ht).args_le (args := [.own none 2 0, .clo (.func g) [] caps]) (fun w S vs h => by
    obtain ⟨v, vs, rfl, h1, h2⟩ := h.cons_inv
    exact .cons (DLe.own_slc _ _ _ _ _ h1) h2)
  refine AC.of_body Tryz.func38 rfl Tryz.ntmps38 (by simp) fun C hC => ?_
  refine Gs.sq (Gs.rg [0, 1] fun K hK => ?_); simp (maxSteps:=9^7) only [go_sem]
  refine hK _ _ ?_; clear hK K
  refine Gs.sq (Gs.rg [0, 1] fun K hK => ?_); simp (maxSteps:=9^7) only [go_sem]
  refine ⟨_, Tryz.call65, hix.mono ?_⟩
  rintro e σ1 ⟨rfl, rfl⟩
  simp only [go_sem]
  refine hK _ _ ?_; clear hK K
  refine Gs.sq (Gs.sq ?_)
  refine Gs.rg [0, 1, 5] fun K hK => ?_; simp (maxSteps:=9^7) only [go_sem]
  refine hK _ _ ?_; clear hK K
  refine Gs.condT rfl ?_
  refine Gs.sq (Gs.rg [0] fun K hK => ?_); simp (maxSteps:=9^7) only [go_sem]
  refine hK _ _ ?_; clear hK K
  refine Gs.ret hC Tryz.func38 (by simp [go_sem]) ?_
  simp only [go_sem]
theorem deleteFunc_fileG (o : Option Nat) (l : List XFile) (g : FuncId) (caps : List D) (p : XFile → Bool) (ρ : Store) (hl : l.length < 2 ^ 40) (hg : GrD o 2 (l.map XFile.d) ρ) (ht : ∀ τ, SLe ρ τ → TestsF caps g p l τ) :
    AC Tryz.prog 38 [.own o 2 l.length, .clo (.func g) [] caps] (cellsOf o 2 (l.map XFile.d) ++ ρ)
      (fun e σ' => e = .ret (.own o 2 (kept p l).length) ∧ σ' = cellsOf o 2 ((kept p l).map XFile.d) ++ ρ ∧ GrD o 2 ((kept p l).map XFile.d) ρ) := by
  cases o with
  | none =>
    have : l = [] := by have := hg.zero rfl; simpa using this
    subst this
    refine (deleteFunc_file0 g caps p ρ (ht ρ (SLe.refl ρ))).mono ?_
    rintro e σ' ⟨rfl, rfl⟩
    exact ⟨rfl, rfl, GrD.nil _ _⟩
  | some b =>
    refine (deleteFunc_file b l g caps p ρ hl (hg.fresh b rfl) ht).cut ?_
    rintro e σ' ⟨rfl, k, rfl⟩
    exact .inr ⟨b, 2, _, _, ρ, rfl, rfl, rfl, ⟨hg.fresh, nofun⟩⟩
def missB (g : XGr) (l : List XFile) (f : ByteArray) : Bool := !(lookL g.mks f).isSome && !(findF l f).isSome
theorem eval1_tests (g : XGr) (mb bg bl : Nat) (l : List XFile) (fs : List ByteArray) (σ : Store) (hm : sget mb σ = some (.mp (mkE g.mks))) (h1 : sget bg σ = some (.arr 1 [g.d mb])) (h2 : sget bl σ = some (.arr 1 [.slc (l.map XFile.d)])) (hl : l.length < 2 ^ 31) (hb : ∀ f ∈ l, f.b.length < 2 ^ 40) :
    Tests [.ptr bg 1 0 0, .ptr bl 1 0 0] 32 (missB g l) fs σ := by
  refine ⟨Tryz.call32, fun f _ => ?_⟩
  have hmk := graphMaker_calls g mb f σ hm
  have hgd : g.d mb = .elt (g.cells mb) := rfl
  rw [hgd] at hmk h1
  have hfc := find_calls l f σ hl hb
  have hfd : ∀ o : Option (List UInt8), ∃ x, findD o = .tup [.slc x, .v (.bool o.isSome)] := fun o => by cases o <;> exact ⟨_, rfl⟩
  obtain ⟨x, hx⟩ := hfd (findF l f)
  rw [hx] at hfc
  refine AC.of_body Tryz.func32 rfl Tryz.ntmps32 (by simp) fun C hC => ?_
  refine Gs.sq (Gs.rg [0, 1, 2] fun K hK => ?_); simp (maxSteps:=9^7) only [go_sem]
  refine hK _ _ ?_; clear hK K
  refine Gs.sq (Gs.rg [0, 1, 2] fun K hK => ?_); simp (maxSteps:=9^7) only [go_sem, sD, h1]
  refine ⟨_, Tryz.call33, hmk.mono ?_⟩
  rintro e σ1 ⟨rfl, rfl⟩
  simp only [go_sem]
  refine hK _ _ ?_; clear hK K
  refine Gs.sq (Gs.rg [0, 2, 6] fun K hK => ?_); simp (maxSteps:=9^7) only [go_sem, h2, sD]
  refine ⟨_, Tryz.call27, hfc.mono ?_⟩
  rintro e σ1 ⟨rfl, rfl⟩
  simp only [go_sem]
  refine hK _ _ ?_; clear hK K
  refine Gs.sq ?_
  rcases Bool.eq_false_or_eq_true (lookL g.mks f).isSome with hs | hs
  · refine Gs.rg [6, 8] fun K hK => ?_; simp (maxSteps:=9^7) only [go_sem, hs]
    refine hK _ _ ?_; clear hK K
    refine Gs.ret hC Tryz.func32 (by simp [go_sem]) ?_
    simp only [go_sem]
    unfold missB; rw [hs]; simp
  · refine Gs.rg [6, 8] fun K hK => ?_; simp (maxSteps:=9^7) only [go_sem, hs]
    refine hK _ _ ?_; clear hK K
    refine Gs.ret hC Tryz.func32 (by simp [go_sem]) ?_
    simp only [go_sem]
    unfold missB; rw [hs]; simp
def farB (g : XGr) (n : Nat) (f : XFile) : Bool := !(if (lookL g.mks f.name).isSome then (aboveL g n).contains f.name else !ownB f.name)
theorem eval2_tests (g : XGr) (hg : g.Ok) (mb bg bn n : Nat) (hn : n < g.man.edges.length) (l : List XFile) (σ : Store) (hm : sget mb σ = some (.mp (mkE g.mks))) (h1 : sget bg σ = some (.arr 1 [g.d mb])) (h2 : sget bn σ = some (.arr 1 [nD n])) (hsz : ∀ f ∈ l, f.name.size < 2 ^ 40) :
    TestsF [.ptr bg 1 0 0, .ptr bn 1 0 0] 37 (farB g n) l σ := by
  refine ⟨Tryz.call37, fun f hf => ?_⟩
  refine AC.forget (R := fun e σ' => e = .ret (.v (.bool (farB g n f))) ∧ SLe σ σ') ?_ fun e σ' h => ⟨σ, h.2, h.1, rfl⟩
  have hgd : g.d mb = .elt (g.cells mb) := rfl
  rw [hgd] at h1
  unfold XFile.d
  refine AC.of_body Tryz.func37 rfl Tryz.ntmps37 (by simp) fun C hC => ?_
  refine Gs.sq (Gs.rg [0, 1, 2] fun K hK => ?_); simp (maxSteps:=9^7) only [go_sem]
  intro b3 hb3
  have hn1 : bg ≠ b3 := fun e => by rw [e, hb3] at h1; cases h1
  have hn2 : bn ≠ b3 := fun e => by rw [e, hb3] at h2; cases h2
  have hn3 : mb ≠ b3 := fun e => by rw [e, hb3] at hm; cases hm
  have hthere := there_calls g hg mb n hn f.name (hsz f hf) ((b3, .arr 2 [.agg [.v (.string f.name), .slc (f.b.map bD)]]) :: σ) (by rw [sget_cons, if_neg hn3]; exact hm)
  refine hK _ _ ?_; clear hK K
  refine Gs.sq (Gs.rg [1, 2, 3] fun K hK => ?_); simp (maxSteps:=9^7) only [go_sem, hn1, hn2, h1, h2]
  refine ⟨_, Tryz.call23, hthere.mono ?_⟩
  rintro e σ1 ⟨rfl, rfl⟩
  simp only [go_sem]
  refine hK _ _ ?_; clear hK K
  refine Gs.ret hC Tryz.func37 (by simp [go_sem]) ?_
  simp only [go_sem]
  exact ⟨rfl, sle_cons (SLe.refl _) hb3⟩
def ownMadeB (g : XGr) (f : XFile) : Bool := (lookL g.mks f.name).isSome || ownB f.name
theorem eval3_tests (g : XGr) (mb bg : Nat) (l : List XFile) (σ : Store) (hm : sget mb σ = some (.mp (mkE g.mks))) (h1 : sget bg σ = some (.arr 1 [g.d mb])) (hsz : ∀ f ∈ l, f.name.size < 2 ^ 40) :
    TestsF [.ptr bg 1 0 0] 40 (ownMadeB g) l σ := by
  refine ⟨Tryz.call40, fun f hf => ?_⟩
  refine AC.forget (R := fun e σ' => e = .ret (.v (.bool (ownMadeB g f))) ∧ SLe σ σ') ?_ fun e σ' h => ⟨σ, h.2, h.1, rfl⟩
  have hgd : g.d mb = .elt (g.cells mb) := rfl
  rw [hgd] at h1
  unfold XFile.d
  refine AC.of_body Tryz.func40 rfl Tryz.ntmps40 (by simp) fun C hC => ?_
  refine Gs.sq (Gs.rg [0, 1] fun K hK => ?_); simp (maxSteps:=9^7) only [go_sem]
  intro b3 hb3
  have hn1 : bg ≠ b3 := fun e => by rw [e, hb3] at h1; cases h1
  have hn3 : mb ≠ b3 := fun e => by rw [e, hb3] at hm; cases hm
  have hmk := graphMaker_calls g mb f.name ((b3, .arr 2 [.agg [.v (.string f.name), .slc (f.b.map bD)]]) :: σ) (by rw [sget_cons, if_neg hn3]; exact hm)
  rw [hgd] at hmk
  refine hK _ _ ?_; clear hK K
  refine Gs.sq (Gs.rg [1, 2] fun K hK => ?_); simp (maxSteps:=9^7) only [go_sem, hn1, h1]
  refine ⟨_, Tryz.call33, hmk.mono ?_⟩
  rintro e σ1 ⟨rfl, rfl⟩
  simp only [go_sem]
  refine hK _ _ ?_; clear hK K
  refine Gs.sq ?_
  rcases Bool.eq_false_or_eq_true (lookL g.mks f.name).isSome with hs | hs
  · refine Gs.rg [2, 5] fun K hK => ?_; simp (maxSteps:=9^7) only [go_sem, hs]
    refine hK _ _ ?_; clear hK K
    refine Gs.ret hC Tryz.func40 (by simp [go_sem]) ?_
    simp only [go_sem]
    unfold ownMadeB; rw [hs]
    exact ⟨by simp, sle_cons (SLe.refl _) hb3⟩
  · refine Gs.rg [2, 5] fun K hK => ?_; simp (maxSteps:=9^7) only [go_sem, hs]
    refine ⟨_, Tryz.call18, (own_calls f.name _ (hsz f hf)).mono ?_⟩
    rintro e σ1 ⟨rfl, rfl⟩
    simp only [go_sem]
    refine hK _ _ ?_; clear hK K
    refine Gs.ret hC Tryz.func40 (by simp [go_sem]) ?_
    simp only [go_sem]
    unfold ownMadeB; rw [hs]
    exact ⟨by simp, sle_cons (SLe.refl _) hb3⟩
def putL (s : ByteArray) : List ByteArray → List ByteArray
  | [] => [s]
  | x :: r => if bL x < bL s then x :: putL s r else if x = s then x :: r else s :: x :: r
theorem putL_at {s : ByteArray} {l : List ByteArray} : ∀ {i : Nat}, i ≤ l.length → (∀ x ∈ l.take i, bL x < bL s) → putL s l = l.take i ++ putL s (l.drop i) := by
  intro i hi h
  induction l generalizing i with
  | nil => simp
  | cons x r ih =>
    cases i with
    | zero => simp
    | succ i =>
      have hx : bL x < bL s := h x (by simp)
      rw [putL, if_pos hx, ih (by simpa using hi) (fun y hy => h y (by simp [hy]))]
      simp
theorem put_own (l : List ByteArray) (s : ByteArray) (σ : Store) (hl : l.length < 2 ^ 40) :
    AC Tryz.prog 59 [.slc (l.map sD), .v (.string s)] σ (fun e σ' => (e = .ret (.slc ((putL s l).map sD)) ∧ σ' = σ) ∨ ∃ o, GrD o 1 ((putL s l).map sD) σ ∧ e = .ret (.own o 1 ((putL s l).map sD).length) ∧ σ' = cellsOf o 1 ((putL s l).map sD) ++ σ) := by
  have hll : (l.map sD).length = l.length := List.length_map ..
  have hti : ∀ i, (List.take i (l.map sD)).length = min i l.length := fun i => by rw [List.length_take, hll]
  refine AC.of_body Tryz.func59 rfl Tryz.ntmps59 (by simp) fun C hC => ?_
  refine Gs.sq (Gs.rg [0, 1] fun K hK => ?_); simp (maxSteps:=9^7) only [go_sem]
  refine hK _ _ ?_; clear hK K
  refine Gs.sq (Gs.rg [0, 1] fun K hK => ?_); simp (maxSteps:=9^7) only [go_sem]
  refine hK _ _ ?_; clear hK K
  refine Gs.sq ?_
  refine Gs.bk ?_
  refine Gs.rebase [0, 1, 5] ?_
  simp only [go_sem]
  refine Gs.while (fun (i : Nat) env' σ'' => (i ≤ l.length ∧ ∀ x ∈ l.take i, bL x < bL s) ∧ env' = [(0, .slc (l.map sD)), (1, .v (.string s)), (5, .v (.int .i64 (i : Int)))] ∧ σ = σ'') (fun (i : Nat) => l.length - i) 0 ⟨⟨by omega, by simp⟩, rfl, rfl⟩ ?_
  rintro i env' σ'' ⟨⟨hi, hall⟩, rfl, rfl⟩ ih
  have ih1 := ih
  refine Gs.sq (Gs.sq ?_)
  rcases Nat.lt_or_ge i l.length with hlt | hge
  · have hd : decide ((i : Int) < (l.length : Int)) = true := decide_eq_true (by omega)
    have hg := getD_map_lt sD l i hlt
    rw [sD] at hg
    have hi0 : (0 : Int) ≤ (i : Int) := by omega
    have hi1 : (i : Int) < (l.length : Int) := by omega
    refine Gs.rg [0, 1, 5] fun K hK => ?_; simp (maxSteps:=9^7) only [go_sem, hll, hd, hg, hi0, hi1, decide_true]
    refine hK _ _ ?_; clear hK K
    refine Gs.cond rfl (fun h18 => ?_) (fun h18 => ?_)
    · have hb : bL l[i] < bL s := by
        have := h18
        rw [Go.Proofs.bytesLess_eq, tl_data, tl_data] at this
        exact of_decide_eq_true this
      refine Gs.sk ?_
      refine Gs.bk ?_
      refine Gs.rg [0, 1, 5] fun K hK => ?_; simp (maxSteps:=9^7) only [go_sem]
      refine hK _ _ ?_; clear hK K
      refine Gs.ib ?_
      refine Gs.rebase [0, 1, 5] ?_
      simp only [go_sem]
      rw [wrap_succ i (by omega)]
      refine ih (i + 1) _ _ ⟨⟨by omega, fun x hx => ?_⟩, rfl, rfl⟩ (by omega)
      rw [List.take_succ_eq_append_getElem hlt] at hx
      rcases List.mem_append.1 hx with hx | hx
      · exact hall x hx
      · simp only [List.mem_singleton] at hx; rw [hx]; exact hb
    · have hb : ¬ bL l[i] < bL s := by
        have := h18
        rw [Go.Proofs.bytesLess_eq, tl_data, tl_data] at this
        exact of_decide_eq_false this
      have hput := putL_at hi hall
      rw [List.drop_eq_getElem_cons hlt, putL, if_neg hb] at hput
      refine Gs.exit rfl ?_
      refine Gs.sq (Gs.sq ?_)
      by_cases hq : l[i] = s
      · have hbq : (l[i].toList == s.toList) = true := by rw [hq]; simp
        refine Gs.rg [0, 1, 5] fun K hK => ?_; simp (maxSteps:=9^7) only [go_sem, hll, hd, hg, hi0, hi1, decide_true, hbq]
        refine hK _ _ ?_; clear hK K
        refine Gs.condT rfl ?_
        refine Gs.sq (Gs.rg [0] fun K hK => ?_); simp (maxSteps:=9^7) only [go_sem]
        refine hK _ _ ?_; clear hK K
        refine Gs.ret hC Tryz.func59 (by simp [go_sem]) ?_
        simp only [go_sem]
        rw [if_pos hq] at hput
        rw [hput, ← List.drop_eq_getElem_cons hlt, List.take_append_drop]
        first | exact .inl ⟨rfl, rfl⟩ | exact .inl rfl | trace_state
      · have hbq : (l[i].toList == s.toList) = false := by
          rw [tl_data, tl_data]
          exact beq_false_of_ne fun e => hq (by rw [← lB_bL l[i], ← lB_bL s]; exact congrArg lB e)
        rw [if_neg hq, ← List.drop_eq_getElem_cons hlt] at hput
        refine Gs.rg [0, 1, 5] fun K hK => ?_; simp (maxSteps:=9^7) only [go_sem, hll, hd, hg, hi0, hi1, decide_true, hbq]
        refine hK _ _ ?_; clear hK K
        refine Gs.condF rfl ?_
        refine Gs.sk ?_
        refine Gs.sq ?_
        refine Gs.regionM [0, 1, 5] [40] fun K hK => ?_; simp (maxSteps:=9^7) only [go_sem, hll]
        refine ⟨by decide, fun b hb => ⟨⟨by omega, by omega, fun x hx => (plain_sD _ x hx).1⟩, ⟨fun y hy => plain_sD _ y (List.mem_of_mem_take hy), by rw [hti]; omega, by rw [hti]; omega⟩, fun ob hz hf => ?_⟩⟩
        have e1 : (if ob = none then [] else List.take i (l.map sD)) = List.take i (l.map sD) := by
          split
          · rename_i h; exact (hz h).symm
          · rfl
        have e2 : List.take (List.take i (l.map sD)).length (List.take i (l.map sD)) = List.take i (l.map sD) := List.take_of_length_le (Nat.le_refl _)
        rw [sdel_fresh hb] at hf ⊢
        simp only [e1, e2, sdelo_cells hf]
        refine ⟨by decide, ⟨Nat.le_refl _, fun y hy => by subst hy; exact ⟨rfl, rfl⟩, by rw [hti]; omega, by rw [hti]; omega⟩, fun ob2 hz2 hf2 => ?_⟩
        refine hK _ _ ?_; clear hK K
        have hg2 : GrD ob2 1 (List.take i (l.map sD) ++ [.v (.string s)]) σ := ⟨hf2, hz2⟩
        have ho2 := hg2.oget
        have hd2 := hg2.sdel
        have htk2 : List.take (List.take i (l.map sD) ++ [D.v (.string s)]).length (List.take i (l.map sD) ++ [D.v (.string s)]) = List.take i (l.map sD) ++ [D.v (.string s)] := List.take_of_length_le (Nat.le_refl _)
        refine Gs.sq (Gs.rg [0, 5, 6] fun K hK => ?_); simp (maxSteps:=9^7) only [go_sem, hll, ho2, hd2, htk2]
        have hdl : List.drop i (List.take l.length (l.map sD)) = (l.drop i).map sD := by
          rw [List.take_of_length_le (by omega), List.map_drop]
        have hrow : List.take i (l.map sD) ++ [D.v (.string s)] ++ List.drop i (List.take l.length (l.map sD)) = (putL s l).map sD := by
          rw [hdl, hput, ← List.map_take]
          simp only [List.map_append, List.map_cons, List.map_nil, List.append_assoc, List.cons_append, List.nil_append]
          rfl
        refine ⟨⟨by omega, by omega, by omega, fun x hx => (plain_sD _ x hx).1⟩, ⟨Nat.le_refl _, by rw [hdl]; exact plain_sD _, ?_, ?_⟩, fun ob hz hf => ?_⟩
        · rw [hdl]; simp only [List.length_append, List.length_map, List.length_drop, List.length_singleton, hti]; omega
        · rw [hdl]; simp only [List.length_append, List.length_map, List.length_drop, List.length_singleton, hti]; omega
        rw [hrow] at hz ⊢
        refine hK _ _ ?_; clear hK K
        refine Gs.ret hC Tryz.func59 (by simp [go_sem]) ?_
        simp only [go_sem]
        exact .inr ⟨ob, ⟨hf, hz⟩, rfl, rfl⟩
  · have hd : decide ((i : Int) < (l.length : Int)) = false := decide_eq_false (by omega)
    refine Gs.rg [0, 1, 5] fun K hK => ?_; simp (maxSteps:=9^7) only [go_sem, hll, hd]
    refine hK _ _ ?_; clear hK K
    refine Gs.condF rfl ?_
    refine Gs.exit rfl ?_
    refine Gs.sq (Gs.sq ?_)
    have hput := putL_at hi hall
    have hie : i = l.length := by omega
    refine Gs.rg [0, 1, 5] fun K hK => ?_; simp (maxSteps:=9^7) only [go_sem, hll, hd]
    refine hK _ _ ?_; clear hK K
    refine Gs.condF rfl ?_
    refine Gs.sk ?_
    refine Gs.sq ?_
    refine Gs.regionM [0, 1, 5] [40] fun K hK => ?_; simp (maxSteps:=9^7) only [go_sem, hll]
    refine ⟨by decide, fun b hb => ⟨⟨by omega, by omega, fun x hx => (plain_sD _ x hx).1⟩, ⟨fun y hy => plain_sD _ y (List.mem_of_mem_take hy), by rw [hti]; omega, by rw [hti]; omega⟩, fun ob hz hf => ?_⟩⟩
    have e1 : (if ob = none then [] else List.take i (l.map sD)) = List.take i (l.map sD) := by
      split
      · rename_i h; exact (hz h).symm
      · rfl
    have e2 : List.take (List.take i (l.map sD)).length (List.take i (l.map sD)) = List.take i (l.map sD) := List.take_of_length_le (Nat.le_refl _)
    rw [sdel_fresh hb] at hf ⊢
    simp only [e1, e2, sdelo_cells hf]
    refine ⟨by decide, ⟨Nat.le_refl _, fun y hy => by subst hy; exact ⟨rfl, rfl⟩, by rw [hti]; omega, by rw [hti]; omega⟩, fun ob2 hz2 hf2 => ?_⟩
    refine hK _ _ ?_; clear hK K
    have hg2 : GrD ob2 1 (List.take i (l.map sD) ++ [.v (.string s)]) σ := ⟨hf2, hz2⟩
    have ho2 := hg2.oget
    have hd2 := hg2.sdel
    have htk2 : List.take (List.take i (l.map sD) ++ [D.v (.string s)]).length (List.take i (l.map sD) ++ [D.v (.string s)]) = List.take i (l.map sD) ++ [D.v (.string s)] := List.take_of_length_le (Nat.le_refl _)
    refine Gs.sq (Gs.rg [0, 5, 6] fun K hK => ?_); simp (maxSteps:=9^7) only [go_sem, hll, ho2, hd2, htk2]
    have hdl : List.drop i (List.take l.length (l.map sD)) = (l.drop i).map sD := by
      rw [List.take_of_length_le (by omega), List.map_drop]
    have hrow : List.take i (l.map sD) ++ [D.v (.string s)] ++ List.drop i (List.take l.length (l.map sD)) = (putL s l).map sD := by
      rw [hdl, hput, ← List.map_take]
      simp only [hie, List.drop_length, putL, List.map_append, List.map_cons, List.map_nil, List.append_assoc, List.cons_append, List.nil_append]
      rfl
    refine ⟨⟨by omega, by omega, by omega, fun x hx => (plain_sD _ x hx).1⟩, ⟨Nat.le_refl _, by rw [hdl]; exact plain_sD _, ?_, ?_⟩, fun ob hz hf => ?_⟩
    · rw [hdl]; simp only [List.length_append, List.length_map, List.length_drop, List.length_singleton, hti]; omega
    · rw [hdl]; simp only [List.length_append, List.length_map, List.length_drop, List.length_singleton, hti]; omega
    rw [hrow] at hz ⊢
    refine hK _ _ ?_; clear hK K
    refine Gs.ret hC Tryz.func59 (by simp [go_sem]) ?_
    simp only [go_sem]
    exact .inr ⟨ob, ⟨hf, hz⟩, rfl, rfl⟩
theorem put_pub (l : List ByteArray) (s : ByteArray) (σ : Store) (hl : l.length < 2 ^ 40) :
    AC Tryz.prog 59 [.slc (l.map sD), .v (.string s)] σ (fun e σ' => e = .ret (.slc ((putL s l).map sD)) ∧ σ' = σ) :=
  AC.pubOwnD (sz := 1) (put_own l s [] hl) σ
theorem putL_len (s : ByteArray) : ∀ l : List ByteArray, (putL s l).length ≤ l.length + 1
  | [] => by simp [putL]
  | x :: r => by
    unfold putL
    have := putL_len s r
    split
    · simp; omega
    · split <;> simp
def putAll (out fs : List ByteArray) : List ByteArray := fs.foldl (fun o f => putL f o) out
theorem putAll_succ (out fs : List ByteArray) (i : Nat) (h : i < fs.length) : putAll out (fs.take (i + 1)) = putL fs[i] (putAll out (fs.take i)) := by
  unfold putAll
  rw [List.take_succ_eq_append_getElem h, List.foldl_append]
  rfl
theorem putAll_len (out fs : List ByteArray) : (putAll out fs).length ≤ out.length + fs.length := by
  induction fs generalizing out with
  | nil => exact Nat.le_refl _
  | cons f fs ih =>
    have h1 := ih (putL f out)
    have h2 := putL_len f out
    show (putAll (putL f out) fs).length ≤ _
    simp only [List.length_cons]
    omega
theorem putAll_append (out a b : List ByteArray) : putAll out (a ++ b) = putAll (putAll out a) b := List.foldl_append ..
theorem Gs.nilSlc {P : Program} {N : Slots} {C : Ctx P N} {todo : List Item} {env : Env} {σ : Store} (k : Nat) (h0 : eget k env = .v (.slice none 0 0)) (h : Gs C todo (eput k (.slc []) env) σ) : Gs C todo env σ :=
  h.env_le fun j => by
    rw [eget_eput]
    split
    · rename_i hj; rw [hj, h0]; exact DLe.nil_slc
    · exact DLe.refl _
theorem refNeeds_own (e : XEdge) (h : e.small) :
    AC Tryz.prog 46 [e.d] [] (fun r σ' => ∃ o, GrD o 1 (e.needs.map sD) [] ∧ r = .ret (.own o 1 (e.needs.map sD).length) ∧ σ' = cellsOf o 1 (e.needs.map sD) ++ []) := by
  have h1 := h.ins
  have h2 := h.impl
  have h3 := h.order
  have l1 : (e.ins.map sD).length = e.ins.length := List.length_map ..
  have l2 : (e.impl.map sD).length = e.impl.length := List.length_map ..
  have l3 : (e.order.map sD).length = e.order.length := List.length_map ..
  unfold XEdge.d
  refine AC.of_body Tryz.func46 rfl Tryz.ntmps46 (by simp) fun C hC => ?_
  refine Gs.sq (Gs.rg [0] fun K hK => ?_); simp (maxSteps:=9^7) only [go_sem]
  intro b1
  refine hK _ _ ?_; clear hK K
  generalize hσ : [(b1, AObj.arr 6 [D.agg [.slc (e.outs.map sD), .slc (e.ins.map sD), .slc (e.impl.map sD), .slc (e.order.map sD), .v (.string e.cmd), .v (.string e.dep)]])] = ρ
  have g1 : sget b1 ρ = some (.arr 6 [D.agg [.slc (e.outs.map sD), .slc (e.ins.map sD), .slc (e.impl.map sD), .slc (e.order.map sD), .v (.string e.cmd), .v (.string e.dep)]]) := by rw [← hσ, sget_self]
  refine Gs.sq ?_
  refine Gs.draw [1] [] [b1] [] [(1, true), (2, true), (4, true), (5, true), (7, true), (8, true), (0, false), (3, false), (6, false), (9, false), (10, true)] (by kernel_rfl) (by decide) (by kernel_rfl) fun K hK => ?_; simp (maxSteps:=9^7) only [go_sem, g1]
  refine ⟨by decide, fun b hb => ⟨?_, ⟨plain_sD _, by omega, by omega⟩, fun ob hz hf => ?_⟩⟩
  · rintro _ rfl
    rw [sget_cons, if_neg (fun e => by rw [← e, g1] at hb; cases hb)]
  have hne : b1 ≠ b := fun e => by rw [← e, g1] at hb; cases hb
  rw [sdel_fresh hb] at hf ⊢
  have hg1 : GrD ob 1 (e.ins.map sD) ρ := ⟨hf, hz⟩
  have e1 : (if ob = none then [] else e.ins.map sD) = e.ins.map sD := by
    split
    · rename_i h; exact (hz h).symm
    · rfl
  have e2 : List.take (e.ins.map sD).length (e.ins.map sD) = e.ins.map sD := List.take_of_length_le (Nat.le_refl _)
  simp only [e1, e2, sdelo_cells hf]
  refine ⟨?_, ⟨Nat.le_refl _, plain_sD _, by omega, by omega⟩, fun ob1 hz1 hf1 => ?_⟩
  · rintro _ rfl
    rw [hg1.keep g1, sget_cons, if_neg hne, g1]
  have hg2 : GrD ob1 1 (e.ins.map sD ++ e.impl.map sD) ρ := ⟨hf1, hz1⟩
  have e3 : (if ob1 = none then [] else e.ins.map sD ++ e.impl.map sD) = e.ins.map sD ++ e.impl.map sD := by
    split
    · rename_i h; exact (hz1 h).symm
    · rfl
  have e4 : List.take (e.ins.map sD ++ e.impl.map sD).length (e.ins.map sD ++ e.impl.map sD) = e.ins.map sD ++ e.impl.map sD := List.take_of_length_le (Nat.le_refl _)
  simp only [e3, e4, sdelo_cells hf1]
  have l4 : (e.ins.map sD ++ e.impl.map sD).length = e.ins.length + e.impl.length := by simp
  refine ⟨?_, ⟨Nat.le_refl _, plain_sD _, by omega, by omega⟩, fun ob2 hz2 hf2 => ?_⟩
  · rintro _ rfl
    rw [hg2.keep g1, hg1.keep g1]
  have hg3 : GrD ob2 1 (e.ins.map sD ++ e.impl.map sD ++ e.order.map sD) ρ := ⟨hf2, hz2⟩
  refine ⟨?_, ?_⟩
  · rintro _ rfl
    rw [hg3.keep g1, hg2.keep g1]
  have hn : e.ins.map sD ++ e.impl.map sD ++ e.order.map sD = e.needs.map sD := by unfold XEdge.needs; simp
  rw [hn] at hg3 ⊢
  refine hK _ _ ?_; clear hK K
  subst hσ
  have hdr := hg3.drop (b := b1) (ρ := []) rfl
  refine Gs.le (ELe.refl _) hdr.2 ?_
  refine Gs.ret hC Tryz.func46 (by simp [go_sem]) ?_
  simp only [go_sem]
  exact ⟨ob2, hdr.1, rfl, rfl⟩
theorem refNeeds_calls (e : XEdge) (σ : Store) (h : e.small) :
    AC Tryz.prog 46 [e.d] σ (fun r σ' => r = .ret (.slc (e.needs.map sD)) ∧ σ' = σ) :=
  AC.pubOwn (refNeeds_own e h) σ
theorem refNeeds_ownS (e : XEdge) (h : e.small) (σ : Store) :
    AC Tryz.prog 46 [e.d] σ (fun r σ' => ∃ o, GrD o 1 (e.needs.map sD) σ ∧ r = .ret (.own o 1 (e.needs.map sD).length) ∧ σ' = cellsOf o 1 (e.needs.map sD) ++ σ) := by
  refine ((refNeeds_own e h).quiet (σ := σ)).mono ?_
  rintro r σ' ⟨σ1, ⟨o, hg, rfl, rfl⟩, hq, rfl⟩
  rw [List.append_nil] at hq ⊢
  refine ⟨o, ⟨fun b hb => ?_, hg.zero⟩, rfl, rfl⟩
  subst hb
  cases hs : sget b σ with
  | none => rfl
  | some x =>
    have := hq b (by rw [hs]; simp)
    change sget b [(b, _)] = none at this
    rw [sget_self] at this; cases this
def wrongR (m : XMan) : Bool := m.edges.any fun e => (e.needs ++ e.outs).any ownR
theorem refWrong_calls (m : XMan) (σ : Store) (hl : m.edges.length < 2 ^ 20) (hs : ∀ e ∈ m.edges, e.small) :
    AC Tryz.prog 26 [m.d] σ (fun e σ' => e = .ret (.v (.bool (wrongR m))) ∧ σ' = σ) := by
  refine AC.still ?_ σ
  refine AC.forget (R := fun e _ => e = .ret (.v (.bool (wrongR m)))) ?_ fun e σ' h => ⟨[], SLe.nil _, h, rfl⟩
  have hmd : m.d = .agg [.slc (m.edges.map XEdge.d), .slc (m.defs.map sD)] := rfl
  rw [hmd]
  have hll : (m.edges.map XEdge.d).length = m.edges.length := List.length_map ..
  refine AC.of_body Tryz.func26 rfl Tryz.ntmps26 (by simp) fun C hC => ?_
  refine Gs.sq (Gs.rg [0] fun K hK => ?_); simp (maxSteps:=9^7) only [go_sem]
  intro b1
  refine hK _ _ ?_; clear hK K
  generalize hσ : [(b1, AObj.arr 2 [D.agg [.slc (m.edges.map XEdge.d), .slc (m.defs.map sD)]])] = τ
  have g1 : sget b1 τ = some (.arr 2 [D.agg [.slc (m.edges.map XEdge.d), .slc (m.defs.map sD)]]) := by rw [← hσ, sget_self]
  refine Gs.sq (Gs.sq ?_)
  refine Gs.rg [1] fun K hK => ?_; simp (maxSteps:=9^7) only [go_sem]
  refine hK _ _ ?_; clear hK K
  refine Gs.bk ?_
  refine Gs.rebase [1, 3] ?_
  simp only [go_sem]
  refine Gs.while (fun (i : Nat) env' σ'' => (i ≤ m.edges.length ∧ ∀ e ∈ m.edges.take i, (e.needs ++ e.outs).any ownR = false) ∧ env' = [(1, .ptr b1 2 0 0), (3, .v (.int .i64 (i : Int)))] ∧ τ = σ'') (fun (i : Nat) => m.edges.length - i) 0 ⟨⟨by omega, by simp⟩, rfl, rfl⟩ ?_
  rintro i env' σ'' ⟨⟨hi, hall⟩, rfl, rfl⟩ ih
  have ih1 := ih
  refine Gs.sq (Gs.sq ?_)
  refine Gs.rg [1, 3] fun K hK => ?_; simp (maxSteps:=9^7) only [go_sem, g1, hll]
  refine hK _ _ ?_; clear hK K
  refine Gs.cond rfl (fun h10 => ?_) (fun h10 => ?_)
  · have hlt : i < m.edges.length := by simpa using h10
    have hg := getD_map_lt XEdge.d m.edges i hlt
    rw [XEdge.d] at hg
    have hi0 : (0 : Int) ≤ (i : Int) := by omega
    have hi1 : (i : Int) < (m.edges.length : Int) := by omega
    have hsm := hs _ (List.getElem_mem hlt)
    have hnl := needs_len _ hsm
    have hol := hsm.outs
    refine Gs.sk ?_
    refine Gs.sq ?_
    refine Gs.bk ?_
    refine Gs.sq ?_
    refine Gs.draw [1, 3] [] [b1] [] [(0, true), (1, true), (2, true), (3, true), (4, true), (6, true), (7, true), (8, true), (9, true), (10, true), (11, true), (5, false), (12, false), (13, true)] (by kernel_rfl) (by decide) (by kernel_rfl) fun K hK => ?_; simp (maxSteps:=9^7) only [go_sem, g1, hll, hg, hi0, hi1]
    refine ⟨_, Tryz.call46, (refNeeds_ownS m.edges[i] hsm _).mono ?_⟩
    rintro e σ1 ⟨o, hgr, rfl, rfl⟩
    have ho := hgr.oget
    have hd := hgr.sdel
    have htk : List.take (m.edges[i].needs.map sD).length (m.edges[i].needs.map sD) = m.edges[i].needs.map sD := List.take_of_length_le (Nat.le_refl _)
    simp only [go_sem, g1, ho, hd, htk]
    have l1 : (m.edges[i].needs.map sD).length = m.edges[i].needs.length := List.length_map ..
    have l2 : (m.edges[i].outs.map sD).length = m.edges[i].outs.length := List.length_map ..
    refine ⟨?_, ⟨Nat.le_refl _, plain_sD _, by omega, by omega⟩, fun ob hz hf => ⟨?_, ?_⟩⟩
    · rintro _ rfl
      rw [hgr.keep g1, g1]
    · rintro _ rfl
      have hg9 : GrD ob 1 (m.edges[i].needs.map sD ++ m.edges[i].outs.map sD) τ := ⟨hf, hz⟩
      rw [hg9.keep g1, hgr.keep g1]
    rw [← List.map_append] at hz ⊢
    have hg2 : GrD ob 1 ((m.edges[i].needs ++ m.edges[i].outs).map sD) τ := ⟨hf, hz⟩
    refine hK _ _ ?_; clear hK K
    refine Gs.rebase [1, 3, 4] ?_
    simp only [go_sem]
    refine Gs.pubSlot 4 (o := ob) (sz := 1) (xs := (m.edges[i].needs ++ m.edges[i].outs).map sD) rfl hg2 (fun c hc => ?_) (by simp [D.pub]) ?_
    · rw [← hσ] at hc ⊢
      exact .cons (sget_none hc).1 (fun _ _ => rfl) (.nil c)
    have hxl : ((m.edges[i].needs ++ m.edges[i].outs).map sD).length = (m.edges[i].needs ++ m.edges[i].outs).length := List.length_map ..
    refine Gs.sq (Gs.rg [1, 3, 4] fun K hK => ?_); simp (maxSteps:=9^7) only [go_sem]
    refine hK _ _ ?_; clear hK K
    refine Gs.bk ?_
    refine Gs.rebase [1, 3, 4, 5] ?_
    simp only [go_sem]
    refine Gs.while (fun (j : Nat) env' σ'' => (j ≤ (m.edges[i].needs ++ m.edges[i].outs).length ∧ ∀ f ∈ (m.edges[i].needs ++ m.edges[i].outs).take j, ownR f = false) ∧ env' = [(1, .ptr b1 2 0 0), (3, .v (.int .i64 (i : Int))), (4, .slc ((m.edges[i].needs ++ m.edges[i].outs).map sD)), (5, .v (.int .i64 (j : Int)))] ∧ τ = σ'') (fun (j : Nat) => (m.edges[i].needs ++ m.edges[i].outs).length - j) 0 ⟨⟨by omega, by simp⟩, rfl, rfl⟩ ?_
    rintro j env' σ'' ⟨⟨hj, hal⟩, rfl, rfl⟩ ih
    have ih2 := ih
    refine Gs.sq (Gs.sq ?_)
    refine Gs.rg [1, 3, 4, 5] fun K hK => ?_; simp (maxSteps:=9^7) only [go_sem, hxl]
    refine hK _ _ ?_; clear hK K
    refine Gs.cond rfl (fun h29 => ?_) (fun h29 => ?_)
    · have hltj : j < (m.edges[i].needs ++ m.edges[i].outs).length := by
        have : (j : Int) < ((m.edges[i].needs ++ m.edges[i].outs).length : Int) := of_decide_eq_true h29
        omega
      have hgj := getD_map_lt sD (m.edges[i].needs ++ m.edges[i].outs) j hltj
      rw [sD] at hgj
      have hj0 : (0 : Int) ≤ (j : Int) := by omega
      have hj1 : (j : Int) < ((m.edges[i].needs ++ m.edges[i].outs).length : Int) := by omega
      refine Gs.sk ?_
      refine Gs.sq ?_
      refine Gs.bk ?_
      refine Gs.sq (Gs.rg [1, 3, 4, 5] fun K hK => ?_); simp (maxSteps:=9^7) only [go_sem, hxl, hgj, hj0, hj1]
      refine ⟨_, Tryz.call19, (refOwn_calls (m.edges[i].needs ++ m.edges[i].outs)[j] _).mono ?_⟩
      rintro e σ1 ⟨rfl, rfl⟩
      simp only [go_sem]
      refine hK _ _ ?_; clear hK K
      refine Gs.cond rfl (fun h36 => ?_) (fun h36 => ?_)
      · refine Gs.sq ?_
        refine Gs.rg [] fun K hK => ?_; simp (maxSteps:=9^7) only [go_sem]
        refine hK _ _ ?_; clear hK K
        refine Gs.ret hC Tryz.func26 (by simp [go_sem]) ?_
        simp only [go_sem]
        have h1 : (m.edges[i].needs ++ m.edges[i].outs).any ownR = true := List.any_eq_true.2 ⟨_, List.getElem_mem hltj, h36⟩
        have h2 : wrongR m = true := List.any_eq_true.2 ⟨_, List.getElem_mem hlt, h1⟩
        rw [h2]
      · refine Gs.sk ?_
        refine Gs.ib ?_
        refine Gs.rg [1, 3, 4, 5] fun K hK => ?_; simp (maxSteps:=9^7) only [go_sem]
        refine hK _ _ ?_; clear hK K
        refine Gs.rebase [1, 3, 4, 5] ?_
        simp only [go_sem]
        have hb : ownR (m.edges[i].needs ++ m.edges[i].outs)[j] = false := by simpa using h36
        rw [wrap_succ j (by simp only [List.length_append] at hltj; omega)]
        exact ih2 (j + 1) _ _ ⟨⟨by omega, take_succ_none hltj hal hb⟩, rfl, rfl⟩ (by omega)
    · have hje : j = (m.edges[i].needs ++ m.edges[i].outs).length := by
        have : ¬ (j : Int) < ((m.edges[i].needs ++ m.edges[i].outs).length : Int) := of_decide_eq_false h29
        omega
      rw [hje, List.take_length] at hal
      have hno : (m.edges[i].needs ++ m.edges[i].outs).any ownR = false := by
        rw [List.any_eq_false]
        intro f hf2
        rw [hal f hf2]; simp
      refine Gs.exit rfl ?_
      refine Gs.ib ?_
      refine Gs.rg [1, 3] fun K hK => ?_; simp (maxSteps:=9^7) only [go_sem]
      refine hK _ _ ?_; clear hK K
      refine Gs.rebase [1, 3] ?_
      simp only [go_sem]
      rw [wrap_succ i (by omega)]
      exact ih1 (i + 1) _ _ ⟨⟨by omega, take_succ_none hlt hall hno⟩, rfl, rfl⟩ (by omega)
  · have hie : i = m.edges.length := by simp at h10; omega
    subst hie
    rw [List.take_length] at hall
    refine Gs.exit rfl ?_
    refine Gs.sq (Gs.rg [] fun K hK => ?_); simp (maxSteps:=9^7) only [go_sem]
    refine hK _ _ ?_; clear hK K
    refine Gs.ret hC Tryz.func26 (by simp [go_sem]) ?_
    simp only [go_sem]
    have h2 : wrongR m = false := by
      unfold wrongR
      rw [List.any_eq_false]
      intro e he
      rw [hall e he]; simp
    rw [h2]
theorem sadd2 (xo yo : Operand) (x y : ByteArray) (h : (bL x).length + (bL y).length < 2 ^ 60) : aBin Tryz.prog .add 9 xo yo (.v (.string x)) (.v (.string y)) = .val True (.v (.string (lB (bL x ++ bL y)))) := by
  have := sadd xo yo (bL x) (bL y) h
  have e : ∀ s : ByteArray, (⟨(bL s).toArray⟩ : ByteArray) = s := lB_bL
  rw [e, e] at this
  exact this
def printT (out : ByteArray) (ds : List ByteArray) : List UInt8 := bL out ++ [58] ++ ds.flatMap fun d => 32 :: bL d
theorem printT_succ (out : ByteArray) (ds : List ByteArray) (i : Nat) (h : i < ds.length) : printT out (ds.take (i + 1)) = printT out (ds.take i) ++ (32 :: bL ds[i]) := by
  unfold printT
  rw [List.take_succ_eq_append_getElem h, List.flatMap_append]
  simp
theorem printT_len (out : ByteArray) (ds : List ByteArray) (B : Nat) (hB : ∀ d ∈ ds, (bL d).length ≤ B) : ∀ i, i ≤ ds.length → (printT out (ds.take i)).length ≤ (bL out).length + 1 + i * (B + 1)
  | 0, _ => by simp [printT]
  | i + 1, h => by
    have h1 := printT_len out ds B hB i (by omega)
    have h2 := hB ds[i] (List.getElem_mem (by omega))
    rw [printT_succ out ds i (by omega), List.length_append, List.length_cons, Nat.add_mul]
    omega
def incl : List UInt8 := [35, 105, 110, 99, 108, 117, 100, 101, 32]
end Go.Ab.S16
namespace Go.Ab.S16
open Go Go.Proofs Go.RowKit
theorem validRune_calls (r : Int) (σ : Store) : AC Tryz.prog 218 [.v (.int .i32 r)] σ (fun e σ' => e = .ret (.v (.bool (Lib.validRune r))) ∧ σ' = σ) :=
  AC.of_calls1 (vs := [.int .i32 r]) (r := .bool (Lib.validRune r)) rfl fun w => Tryz.utf8_ValidRune r w
theorem indexByte_calls (s : ByteArray) (c : Int) (σ : Store) : AC Tryz.prog 217 [.v (.string s), .v (.int .u8 c)] σ (fun e σ' => e = .ret (.v (.int .i64 (Lib.indexByte s.data.toList c.toNat.toUInt8))) ∧ σ' = σ) :=
  AC.of_calls1 (vs := [.string s, .int .u8 c]) (r := .int .i64 (Lib.indexByte s.data.toList c.toNat.toUInt8)) rfl fun w => Tryz.strings_IndexByte s c w
def dots : ByteArray := ⟨#[46, 95, 45, 43, 47]⟩
theorem enc_last (r : Int) (h : 128 ≤ r) : ∃ (n : Nat) (b : UInt8), 1 ≤ n ∧ n ≤ 3 ∧ (Utf8.encode r).size = n + 1 ∧ (Utf8.encode r).data.toList.getD n 0 = b ∧ 128 ≤ b.toNat := by
  have key : ∀ c : Nat, 128 ≤ (UInt8.ofNat (0x80 + c % 64)).toNat := fun c => by
    rw [UInt8.toNat_ofNat']
    have := Nat.mod_lt c (show 0 < 64 by omega)
    omega
  unfold Utf8.encode
  generalize hc : (if Utf8.valid r = true then r.toNat else Utf8.runeError) = c
  have h128 : 128 ≤ c := by
    rw [← hc]
    split
    · omega
    · decide
  simp only
  rw [if_neg (by omega)]
  split
  · exact ⟨1, _, by omega, by omega, rfl, rfl, key c⟩
  · split
    · exact ⟨2, _, by omega, by omega, rfl, rfl, key c⟩
    · exact ⟨3, _, by omega, by omega, rfl, rfl, key c⟩
theorem indexByte_none : ∀ (l : List UInt8) (c : UInt8), c ∉ l → Lib.indexByte l c = -1
  | [], _, _ => rfl
  | b :: l, c, h => by
    rw [Lib.indexByte]
    have hb : (b == c) = false := by
      rw [beq_eq_false_iff_ne]
      exact fun e => h (by rw [e]; simp)
    rw [hb, indexByte_none l c (fun hm => h (by simp [hm]))]
    rfl
theorem indexByte_some : ∀ (l : List UInt8) (c : UInt8), c ∈ l → 0 ≤ Lib.indexByte l c
  | b :: l, c, h => by
    rw [Lib.indexByte]
    split
    · omega
    · rename_i hb
      have hm : c ∈ l := by
        rcases List.mem_cons.1 h with h | h
        · exact absurd (by rw [h]; simp) hb
        · exact h
      have := indexByte_some l c hm
      split
      · rename_i h2
        rw [beq_iff_eq] at h2
        omega
      · omega
theorem contains_index (l : List UInt8) (c : UInt8) : l.contains c = decide (0 ≤ Lib.indexByte l c) := by
  by_cases h : c ∈ l
  · rw [decide_eq_true (indexByte_some l c h)]; simpa using h
  · rw [indexByte_none l c h]; simpa using h
theorem conv_rune (σ : Store) (r : Int) : aConv Tryz.prog σ 21 9 (.v (.int .i32 r)) = .val True (.v (.string (Utf8.encode r))) := by
  have h1 : Tryz.prog.underlying 21 = some (.int .i32) := by kernel_rfl
  have h2 : Tryz.prog.underlying 9 = some .string := by kernel_rfl
  generalize Tryz.prog = P at h1 h2
  show scal P (convert 21 9 (.int .i32 r)) = _
  simp only [scal, convert, purely_bind, purely_underlying, h1, h2, Option.bind_some, Conv.intToString, purely_pure, okV, ofV, if_true]
theorem indexRune_dots (r : Int) (h : 128 ≤ r) (σ : Store) : AC Tryz.prog 211 [.v (.string dots), .v (.int .i32 r)] σ (fun e σ' => e = .ret (.v (.int .i64 (-1))) ∧ σ' = σ) := by
  refine AC.still ?_ σ
  refine AC.forget (R := fun e _ => e = .ret (.v (.int .i64 (-1)))) ?_ fun e σ' h => ⟨[], SLe.nil _, h, rfl⟩
  refine AC.of_body Tryz.func211 rfl Tryz.ntmps211 (by simp) fun C hC => ?_
  have h0 : decide ((0 : Int) ≤ r) = true := decide_eq_true (by omega)
  have h1 : decide (r < 128) = false := decide_eq_false (by omega)
  obtain ⟨n, b, hn1, hn3, hsz, hlast, hb⟩ := enc_last r h
  by_cases he : r = 65533
  · subst he
    have hdec : ∀ p < 5, (Utf8.decode dots p).2 = 1 ∧ ((((Utf8.decode dots p).1 : Nat) : Int) == 65533) = false := by decide
    refine Gs.sq (Gs.rg [0, 1] fun K hK => ?_); simp (maxSteps:=9^7) only [go_sem]
    refine hK _ _ ?_; clear hK K
    refine Gs.bk ?_
    refine Gs.sq (Gs.rg [0, 1] fun K hK => ?_); simp (maxSteps:=9^7) only [go_sem, h0, h1]
    refine hK _ _ ?_; clear hK K
    refine Gs.condF rfl ?_
    refine Gs.sq (Gs.rg [0, 1] fun K hK => ?_); simp (maxSteps:=9^7) only [go_sem]
    refine hK _ _ ?_; clear hK K
    refine Gs.condT rfl ?_
    refine Gs.sq (Gs.sq ?_)
    refine Gs.rg [0] fun K hK => ?_; simp (maxSteps:=9^7) only [go_sem]
    intro bi
    refine hK _ _ ?_; clear hK K
    refine Gs.bk ?_
    refine Gs.rebase [175] ?_
    simp only [go_sem]
    refine Gs.while (fun (p : Nat) env' σ'' => (p ≤ 5) ∧ env' = [(175, .ptr bi 0 0 0)] ∧ σ'' = [(bi, .sit dots p)]) (fun (p : Nat) => 5 - p) 0 ⟨by omega, rfl, rfl⟩ ?_
    rintro p env' σ'' ⟨hp, rfl, rfl⟩ ih
    have ih1 := ih
    refine Gs.sq ?_
    rcases Nat.lt_or_ge p 5 with hp5 | hp5
    · have hps : p < dots.size := hp5
      refine Gs.rg [175] fun K hK => ?_; simp (maxSteps:=9^7) only [go_sem, hps]
      refine hK _ _ ?_; clear hK K
      refine Gs.sq ?_
      refine Gs.condT rfl ?_
      refine Gs.sk ?_
      refine Gs.bk ?_
      refine Gs.sq (Gs.rg [175, 176] fun K hK => ?_); simp (maxSteps:=9^7) only [go_sem]
      refine hK _ _ ?_; clear hK K
      refine Gs.sq ?_
      have hd := (hdec p hp5).2
      refine Gs.rg [5, 6, 175] fun K hK => ?_; simp (maxSteps:=9^7) only [go_sem, hd]
      refine hK _ _ ?_; clear hK K
      refine Gs.condF rfl ?_
      refine Gs.sk ?_
      refine Gs.ib ?_
      refine Gs.rebase [175] ?_
      simp only [go_sem]
      refine ih (p + 1) _ _ ⟨by omega, rfl, ?_⟩ (by omega)
      rw [(hdec p hp5).1]
    · have hps : ¬ p < dots.size := by show ¬ p < 5; omega
      refine Gs.rg [175] fun K hK => ?_; simp (maxSteps:=9^7) only [go_sem, hps]
      refine hK _ _ ?_; clear hK K
      refine Gs.sq ?_
      refine Gs.condF rfl ?_
      refine Gs.exit rfl ?_
      refine Gs.sq (Gs.rg [] fun K hK => ?_); simp (maxSteps:=9^7) only [go_sem]
      refine hK _ _ ?_; clear hK K
      refine Gs.ret hC Tryz.func211 (by simp [go_sem]) ?_
      simp only [go_sem]
  · have h2 : (r == 65533) = false := by simpa using he
    refine Gs.sq (Gs.rg [0, 1] fun K hK => ?_); simp (maxSteps:=9^7) only [go_sem]
    refine hK _ _ ?_; clear hK K
    refine Gs.bk ?_
    refine Gs.sq (Gs.rg [0, 1] fun K hK => ?_); simp (maxSteps:=9^7) only [go_sem, h0, h1]
    refine hK _ _ ?_; clear hK K
    refine Gs.condF rfl ?_
    refine Gs.sq (Gs.rg [0, 1] fun K hK => ?_); simp (maxSteps:=9^7) only [go_sem, h2]
    refine hK _ _ ?_; clear hK K
    refine Gs.condF rfl ?_
    refine Gs.sq (Gs.rg [0, 1] fun K hK => ?_); simp (maxSteps:=9^7) only [go_sem]
    refine ⟨_, Tryz.call218, (validRune_calls r _).mono ?_⟩
    rintro e σ1 ⟨rfl, rfl⟩
    simp only [go_sem]
    refine hK _ _ ?_; clear hK K
    refine Gs.cond rfl (fun h183 => ?_) (fun h183 => ?_)
    · refine Gs.sq ?_
      refine Gs.rg [] fun K hK => ?_; simp (maxSteps:=9^7) only [go_sem]
      refine hK _ _ ?_; clear hK K
      refine Gs.ret hC Tryz.func211 (by simp [go_sem]) ?_
      simp only [go_sem]
    · refine Gs.scope ?_
      refine Gs.sq (Gs.rg [0, 1] fun K hK => ?_); simp (maxSteps:=9^7) only [go_sem, conv_rune]
      refine hK _ _ ?_; clear hK K
      refine Gs.sq (Gs.rg [0, 7] fun K hK => ?_); simp (maxSteps:=9^7) only [go_sem, hsz]
      refine hK _ _ ?_; clear hK K
      refine Gs.sq (Gs.rg [0, 7, 8] fun K hK => ?_); simp (maxSteps:=9^7) only [go_sem]
      refine hK _ _ ?_; clear hK K
      refine Gs.sq (Gs.rg [0, 7, 8, 9] fun K hK => ?_); simp (maxSteps:=9^7) only [go_sem]
      refine hK _ _ ?_; clear hK K
      refine Gs.sq ?_
      refine Gs.bk ?_
      refine Gs.rebase [0, 7, 8, 9] ?_
      simp only [go_sem]
      refine Gs.while (fun (i : Nat) env' σ'' => (True) ∧ env' = [(0, .v (.string dots)), (7, .v (.string (Utf8.encode r))), (8, .v (.int .i64 n)), (9, .v (.int .i64 n))] ∧ σ'' = []) (fun (i : Nat) => 0) 0 ⟨trivial, by simp [Int.add_sub_cancel, wrap_in (n : Int) (by omega) (by omega)], rfl⟩ ?_
      rintro i env' σ'' ⟨hi, rfl, rfl⟩ ih
      have ih1 := ih
      refine Gs.sq (Gs.sq ?_)
      have hd1 : decide ((n : Int) < (dots.size : Int)) = true := decide_eq_true (by show (n : Int) < 5; omega)
      refine Gs.rg [0, 7, 8, 9] fun K hK => ?_; simp (maxSteps:=9^7) only [go_sem, hd1]
      refine hK _ _ ?_; clear hK K
      refine Gs.condT rfl ?_
      refine Gs.sk ?_
      refine Gs.bk ?_
      refine Gs.scope ?_
      refine Gs.sq (Gs.sq ?_)
      have hdn : ((dots.data.toList.getD n 0).toNat : Int) < 128 := by
        have : ∀ n < 5, (dots.data.toList.getD n 0).toNat < 128 := by decide
        have := this n (by omega)
        omega
      have hneq : (((dots.data.toList.getD n 0).toNat : Int) != (b.toNat : Int)) = true := by
        rw [bne_iff_ne]; omega
      refine Gs.draw [0, 7, 8, 9] [] [] [] [(0, true), (1, true), (2, true), (3, true), (4, true), (5, true), (6, true)] (by kernel_rfl) (by decide) (by kernel_rfl) fun K hK => ?_; simp (maxSteps:=9^7) only [go_sem, hlast, hneq]
      refine ⟨⟨by omega, by show (n : Int) < 5; omega⟩, ⟨by omega, by omega⟩, ?_⟩
      refine hK _ _ ?_; clear hK K
      refine Gs.condT rfl ?_
      refine Gs.sq ?_
      have hw : IntKind.i64.wrap ((n : Int) + 1) = ((n + 1 : Nat) : Int) := wrap_succ n (by omega)
      have hbb : b.toNat.toUInt8 = b := by simp
      have hix : Lib.indexByte (dots.extract (n + 1) dots.size).data.toList b = -1 := indexByte_none _ _ fun hm => by
        have hsub : ∀ x ∈ (dots.extract (n + 1) dots.size).data.toList, x ∈ dots.data.toList := fun x hx => by
          rw [ByteArray.data_extract, Array.toList_extract] at hx
          exact List.mem_of_mem_drop (List.mem_of_mem_take hx)
        have hall : ∀ x ∈ dots.data.toList, x.toNat < 128 := by decide
        have := hall b (hsub b hm)
        omega
      refine Gs.draw [0, 7, 8, 9] [] [] [] [(0, true), (1, true), (2, true), (3, true), (4, true), (5, true), (6, true), (7, false), (8, true)] (by kernel_rfl) (by decide) (by kernel_rfl) fun K hK => ?_; simp (maxSteps:=9^7) only [go_sem, hw, hlast]
      refine ⟨⟨by omega, by show ((n + 1 : Nat) : Int) ≤ 5; omega, Int.le_refl _⟩, ⟨by omega, by omega⟩, ?_⟩
      refine ⟨_, Tryz.call217, (indexByte_calls _ _ _).mono ?_⟩
      rintro e σ1 ⟨rfl, rfl⟩
      simp only [go_sem, Int.toNat_natCast, hbb, hix]
      refine hK _ _ ?_; clear hK K
      refine Gs.sq (Gs.sq ?_)
      refine Gs.rg [0, 7, 8, 9, 11] fun K hK => ?_; simp (maxSteps:=9^7) only [go_sem, hbb, hix]
      refine hK _ _ ?_; clear hK K
      refine Gs.condT rfl ?_
      refine Gs.sq (Gs.rg [] fun K hK => ?_); simp (maxSteps:=9^7) only [go_sem]
      refine hK _ _ ?_; clear hK K
      refine Gs.ret hC Tryz.func211 (by simp [go_sem]) ?_
      simp only [go_sem]
theorem containsRune_dots (r : Nat) (σ : Store) : AC Tryz.prog 196 [.v (.string dots), .v (.int .i32 (r : Int))] σ (fun e σ' => e = .ret (.v (.bool (decide (r < 128) && dots.data.toList.contains (UInt8.ofNat r)))) ∧ σ' = σ) := by
  rcases Nat.lt_or_ge r 128 with h | h
  · refine (containsRune_calls dots (r : Int) σ (by omega) (by omega)).mono ?_
    rintro e σ' ⟨rfl, rfl⟩
    refine ⟨?_, rfl⟩
    rw [decide_eq_true h, contains_index]
    rfl
  · refine AC.of_body Tryz.func196 rfl Tryz.ntmps196 (by simp) fun C hC => ?_
    have hd : decide (r < 128) = false := decide_eq_false (by omega)
    refine Gs.sq (Gs.rg [0, 1] fun K hK => ?_); simp (maxSteps:=9^7) only [go_sem]
    refine hK _ _ ?_; clear hK K
    refine Gs.sq (Gs.rg [0, 1] fun K hK => ?_); simp (maxSteps:=9^7) only [go_sem]
    refine ⟨_, Tryz.call211, (indexRune_dots r (by omega) _).mono ?_⟩
    rintro e σ1 ⟨rfl, rfl⟩
    simp only [go_sem]
    refine hK _ _ ?_; clear hK K
    refine Gs.ret hC Tryz.func196 (by simp [go_sem]) ?_
    simp only [go_sem]
    rw [hd]; rfl
def plainN (r : Nat) : Bool := decide (97 ≤ r ∧ r ≤ 122) || decide (65 ≤ r ∧ r ≤ 90) || decide (48 ≤ r ∧ r ≤ 57) || (decide (r < 128) && dots.data.toList.contains (UInt8.ofNat r))
theorem plain_calls (r : Nat) (σ : Store) : AC Tryz.prog 167 [.v (.int .i32 (r : Int))] σ (fun e σ' => e = .ret (.v (.bool (plainN r))) ∧ σ' = σ) := by
  refine AC.of_body Tryz.func167 rfl Tryz.ntmps167 (by simp) fun C hC => ?_
  have key : (97 ≤ r ∧ r ≤ 122) ∨ (65 ≤ r ∧ r ≤ 90) ∨ (48 ≤ r ∧ r ≤ 57) ∨ r < 48 ∨ (58 ≤ r ∧ r ≤ 64) ∨ (91 ≤ r ∧ r ≤ 96) ∨ 122 < r := by omega
  have fin : ∀ b : Bool, b = plainN r → AEnd.ret (.v (.bool b)) = AEnd.ret (.v (.bool (plainN r))) := fun b h => by rw [h]
  rcases key with h | h | h | h | h | h | h
  · have e1 : decide ((97 : Int) ≤ (r : Int)) = true := decide_eq_true (by omega)
    have e2 : decide ((r : Int) ≤ 122) = true := decide_eq_true (by omega)
    have e3 : decide ((65 : Int) ≤ (r : Int)) = true := decide_eq_true (by omega)
    have e4 : decide ((r : Int) ≤ 90) = false := decide_eq_false (by omega)
    have e5 : decide ((48 : Int) ≤ (r : Int)) = true := decide_eq_true (by omega)
    have e6 : decide ((r : Int) ≤ 57) = false := decide_eq_false (by omega)
    refine Gs.sq (Gs.rg [0] fun K hK => ?_); simp (maxSteps:=9^7) only [go_sem]
    refine hK _ _ ?_; clear hK K
    refine Gs.sq (Gs.rg [0] fun K hK => ?_); simp (maxSteps:=9^7) only [go_sem, e1, e2, e3, e4, e5, e6]
    refine hK _ _ ?_; clear hK K
    refine Gs.ret hC Tryz.func167 (by simp [go_sem]) ?_
    simp only [go_sem]
    refine fin _ ?_
    symm
    simp [plainN]
    omega
  · have e1 : decide ((97 : Int) ≤ (r : Int)) = false := decide_eq_false (by omega)
    have e2 : decide ((r : Int) ≤ 122) = true := decide_eq_true (by omega)
    have e3 : decide ((65 : Int) ≤ (r : Int)) = true := decide_eq_true (by omega)
    have e4 : decide ((r : Int) ≤ 90) = true := decide_eq_true (by omega)
    have e5 : decide ((48 : Int) ≤ (r : Int)) = true := decide_eq_true (by omega)
    have e6 : decide ((r : Int) ≤ 57) = false := decide_eq_false (by omega)
    refine Gs.sq (Gs.rg [0] fun K hK => ?_); simp (maxSteps:=9^7) only [go_sem]
    refine hK _ _ ?_; clear hK K
    refine Gs.sq (Gs.rg [0] fun K hK => ?_); simp (maxSteps:=9^7) only [go_sem, e1, e2, e3, e4, e5, e6]
    refine hK _ _ ?_; clear hK K
    refine Gs.ret hC Tryz.func167 (by simp [go_sem]) ?_
    simp only [go_sem]
    refine fin _ ?_
    symm
    simp [plainN]
    omega
  · have e1 : decide ((97 : Int) ≤ (r : Int)) = false := decide_eq_false (by omega)
    have e2 : decide ((r : Int) ≤ 122) = true := decide_eq_true (by omega)
    have e3 : decide ((65 : Int) ≤ (r : Int)) = false := decide_eq_false (by omega)
    have e4 : decide ((r : Int) ≤ 90) = true := decide_eq_true (by omega)
    have e5 : decide ((48 : Int) ≤ (r : Int)) = true := decide_eq_true (by omega)
    have e6 : decide ((r : Int) ≤ 57) = true := decide_eq_true (by omega)
    refine Gs.sq (Gs.rg [0] fun K hK => ?_); simp (maxSteps:=9^7) only [go_sem]
    refine hK _ _ ?_; clear hK K
    refine Gs.sq (Gs.rg [0] fun K hK => ?_); simp (maxSteps:=9^7) only [go_sem, e1, e2, e3, e4, e5, e6]
    refine hK _ _ ?_; clear hK K
    refine Gs.ret hC Tryz.func167 (by simp [go_sem]) ?_
    simp only [go_sem]
    refine fin _ ?_
    symm
    simp [plainN]
    omega
  · have e1 : decide ((97 : Int) ≤ (r : Int)) = false := decide_eq_false (by omega)
    have e2 : decide ((r : Int) ≤ 122) = true := decide_eq_true (by omega)
    have e3 : decide ((65 : Int) ≤ (r : Int)) = false := decide_eq_false (by omega)
    have e4 : decide ((r : Int) ≤ 90) = true := decide_eq_true (by omega)
    have e5 : decide ((48 : Int) ≤ (r : Int)) = false := decide_eq_false (by omega)
    have e6 : decide ((r : Int) ≤ 57) = true := decide_eq_true (by omega)
    refine Gs.sq (Gs.rg [0] fun K hK => ?_); simp (maxSteps:=9^7) only [go_sem]
    refine hK _ _ ?_; clear hK K
    refine Gs.sq (Gs.rg [0] fun K hK => ?_); simp (maxSteps:=9^7) only [go_sem, e1, e2, e3, e4, e5, e6]
    refine ⟨_, Tryz.call196, (containsRune_dots r _).mono ?_⟩
    rintro e σ1 ⟨rfl, rfl⟩
    simp only [go_sem]
    refine hK _ _ ?_; clear hK K
    refine Gs.ret hC Tryz.func167 (by simp [go_sem]) ?_
    simp only [go_sem]
    refine fin _ ?_
    have f1 : decide (97 ≤ r ∧ r ≤ 122) = false := decide_eq_false (by omega)
    have f2 : decide (65 ≤ r ∧ r ≤ 90) = false := decide_eq_false (by omega)
    have f3 : decide (48 ≤ r ∧ r ≤ 57) = false := decide_eq_false (by omega)
    unfold plainN
    rw [f1, f2, f3]
    rfl
  · have e1 : decide ((97 : Int) ≤ (r : Int)) = false := decide_eq_false (by omega)
    have e2 : decide ((r : Int) ≤ 122) = true := decide_eq_true (by omega)
    have e3 : decide ((65 : Int) ≤ (r : Int)) = false := decide_eq_false (by omega)
    have e4 : decide ((r : Int) ≤ 90) = true := decide_eq_true (by omega)
    have e5 : decide ((48 : Int) ≤ (r : Int)) = true := decide_eq_true (by omega)
    have e6 : decide ((r : Int) ≤ 57) = false := decide_eq_false (by omega)
    refine Gs.sq (Gs.rg [0] fun K hK => ?_); simp (maxSteps:=9^7) only [go_sem]
    refine hK _ _ ?_; clear hK K
    refine Gs.sq (Gs.rg [0] fun K hK => ?_); simp (maxSteps:=9^7) only [go_sem, e1, e2, e3, e4, e5, e6]
    refine ⟨_, Tryz.call196, (containsRune_dots r _).mono ?_⟩
    rintro e σ1 ⟨rfl, rfl⟩
    simp only [go_sem]
    refine hK _ _ ?_; clear hK K
    refine Gs.ret hC Tryz.func167 (by simp [go_sem]) ?_
    simp only [go_sem]
    refine fin _ ?_
    have f1 : decide (97 ≤ r ∧ r ≤ 122) = false := decide_eq_false (by omega)
    have f2 : decide (65 ≤ r ∧ r ≤ 90) = false := decide_eq_false (by omega)
    have f3 : decide (48 ≤ r ∧ r ≤ 57) = false := decide_eq_false (by omega)
    unfold plainN
    rw [f1, f2, f3]
    rfl
  · have e1 : decide ((97 : Int) ≤ (r : Int)) = false := decide_eq_false (by omega)
    have e2 : decide ((r : Int) ≤ 122) = true := decide_eq_true (by omega)
    have e3 : decide ((65 : Int) ≤ (r : Int)) = true := decide_eq_true (by omega)
    have e4 : decide ((r : Int) ≤ 90) = false := decide_eq_false (by omega)
    have e5 : decide ((48 : Int) ≤ (r : Int)) = true := decide_eq_true (by omega)
    have e6 : decide ((r : Int) ≤ 57) = false := decide_eq_false (by omega)
    refine Gs.sq (Gs.rg [0] fun K hK => ?_); simp (maxSteps:=9^7) only [go_sem]
    refine hK _ _ ?_; clear hK K
    refine Gs.sq (Gs.rg [0] fun K hK => ?_); simp (maxSteps:=9^7) only [go_sem, e1, e2, e3, e4, e5, e6]
    refine ⟨_, Tryz.call196, (containsRune_dots r _).mono ?_⟩
    rintro e σ1 ⟨rfl, rfl⟩
    simp only [go_sem]
    refine hK _ _ ?_; clear hK K
    refine Gs.ret hC Tryz.func167 (by simp [go_sem]) ?_
    simp only [go_sem]
    refine fin _ ?_
    have f1 : decide (97 ≤ r ∧ r ≤ 122) = false := decide_eq_false (by omega)
    have f2 : decide (65 ≤ r ∧ r ≤ 90) = false := decide_eq_false (by omega)
    have f3 : decide (48 ≤ r ∧ r ≤ 57) = false := decide_eq_false (by omega)
    unfold plainN
    rw [f1, f2, f3]
    rfl
  · have e1 : decide ((97 : Int) ≤ (r : Int)) = true := decide_eq_true (by omega)
    have e2 : decide ((r : Int) ≤ 122) = false := decide_eq_false (by omega)
    have e3 : decide ((65 : Int) ≤ (r : Int)) = true := decide_eq_true (by omega)
    have e4 : decide ((r : Int) ≤ 90) = false := decide_eq_false (by omega)
    have e5 : decide ((48 : Int) ≤ (r : Int)) = true := decide_eq_true (by omega)
    have e6 : decide ((r : Int) ≤ 57) = false := decide_eq_false (by omega)
    refine Gs.sq (Gs.rg [0] fun K hK => ?_); simp (maxSteps:=9^7) only [go_sem]
    refine hK _ _ ?_; clear hK K
    refine Gs.sq (Gs.rg [0] fun K hK => ?_); simp (maxSteps:=9^7) only [go_sem, e1, e2, e3, e4, e5, e6]
    refine ⟨_, Tryz.call196, (containsRune_dots r _).mono ?_⟩
    rintro e σ1 ⟨rfl, rfl⟩
    simp only [go_sem]
    refine hK _ _ ?_; clear hK K
    refine Gs.ret hC Tryz.func167 (by simp [go_sem]) ?_
    simp only [go_sem]
    refine fin _ ?_
    have f1 : decide (97 ≤ r ∧ r ≤ 122) = false := decide_eq_false (by omega)
    have f2 : decide (65 ≤ r ∧ r ≤ 90) = false := decide_eq_false (by omega)
    have f3 : decide (48 ≤ r ∧ r ≤ 57) = false := decide_eq_false (by omega)
    unfold plainN
    rw [f1, f2, f3]
    rfl
theorem equalIn_bb {P : Program} {T : TypeId} (h : P.underlying T = some .bool) (a b : Bool) (d : Nat) : purely P (Op.equalIn (d + 1) T (.bool a) (.bool b)) = some (a == b) := by
  simp only [Op.equalIn, purely_bind, purely_underlying, h, Option.bind_some, purely_pure]
theorem equal_bb {P : Program} {T : TypeId} (h : P.underlying T = some .bool) (a b : Bool) : purely P (Op.equal T (.bool a) (.bool b)) = some (a == b) := equalIn_bb h a b 9999
section
variable (P : Program) (T : TypeId) (x y : Operand)
@[go_sem] theorem bin_eqlB (a b : Bool) (h : P.underlying T = some .bool) : aBin P .eql T x y (.v (.bool a)) (.v (.bool b)) = .val True (.v (.bool (a == b))) := by simp [aBin, ifcNil, aBin0, toV, scal, eqGuard, binOp, okV, ofV, purely_pure, purely_bind, purely_map, equal_bb h]
@[go_sem] theorem bin_neqB (a b : Bool) (h : P.underlying T = some .bool) : aBin P .neq T x y (.v (.bool a)) (.v (.bool b)) = .val True (.v (.bool (a != b))) := by simp [aBin, ifcNil, aBin0, toV, scal, eqGuard, binOp, okV, ofV, purely_pure, purely_bind, purely_map, equal_bb h, bne]
end
theorem indexFunc_calls (s : ByteArray) (g : FuncId) (p : Nat → Bool) (σ : Store) (hcall : ∀ args w, (callFunc g args).run Tryz.prog w = .ok (.enter g args) w)
    (hp : ∀ (r : Nat) (σ : Store), AC Tryz.prog g [.v (.int .i32 (r : Int))] σ (fun e σ' => e = .ret (.v (.bool (p r))) ∧ σ' = σ)) :
    AC Tryz.prog 195 [.v (.string s), .clo (.func g) [] [], .v (.bool true)] σ (fun e σ' => e = .ret (.v (.int .i64 (Lib.idxFunc p true s))) ∧ σ' = σ) := by
  refine AC.still ?_ σ
  refine AC.forget (R := fun e _ => e = .ret (.v (.int .i64 (Lib.idxFunc p true s)))) ?_ fun e σ' h => ⟨[], SLe.nil _, h, rfl⟩
  refine AC.of_body Tryz.func195 rfl Tryz.ntmps195 (by simp) fun C hC => ?_
  refine Gs.sq (Gs.rg [0, 1, 2] fun K hK => ?_); simp (maxSteps:=9^7) only [go_sem]
  refine hK _ _ ?_; clear hK K
  refine Gs.sq (Gs.sq ?_)
  refine Gs.rg [0, 1, 2] fun K hK => ?_; simp (maxSteps:=9^7) only [go_sem]
  intro bi
  refine hK _ _ ?_; clear hK K
  refine Gs.bk ?_
  refine Gs.rebase [1, 2, 10] ?_
  simp only [go_sem]
  refine Gs.while (fun (pos : Nat) env' σ'' => ∃ gf : Nat, (Lib.idxFuncFrom p true s gf pos = Lib.idxFunc p true s ∧ s.size ≤ pos + gf) ∧ env' = [(1, .clo (.func g) [] []), (2, .v (.bool true)), (10, .ptr bi 0 0 0)] ∧ σ'' = [(bi, .sit s pos)]) (fun (pos : Nat) => s.size - pos) 0 ⟨s.size, ⟨rfl, by omega⟩, rfl, rfl⟩ ?_
  rintro pos env' σ'' ⟨gf, ⟨hgf, hfu⟩, rfl, rfl⟩ ih
  have ih1 := ih
  refine Gs.sq ?_
  rcases Nat.lt_or_ge pos s.size with hps | hps
  · refine Gs.rg [1, 2, 10] fun K hK => ?_; simp (maxSteps:=9^7) only [go_sem, hps]
    refine hK _ _ ?_; clear hK K
    refine Gs.sq ?_
    refine Gs.condT rfl ?_
    refine Gs.sk ?_
    refine Gs.bk ?_
    refine Gs.sq (Gs.rg [1, 2, 10, 11] fun K hK => ?_); simp (maxSteps:=9^7) only [go_sem]
    obtain ⟨g', rfl⟩ : ∃ g', gf = g' + 1 := ⟨gf - 1, by omega⟩
    have hwd := Lib.width_pos s pos
    simp only [Lib.idxFuncFrom, if_pos hps] at hgf
    refine hK _ _ ?_; clear hK K
    refine Gs.sq (Gs.rg [1, 2, 7, 8, 10] fun K hK => ?_); simp (maxSteps:=9^7) only [go_sem]
    refine ⟨g, hcall, (hp _ _).mono ?_⟩
    rintro e σ1 ⟨rfl, rfl⟩
    simp only [go_sem]
    refine hK _ _ ?_; clear hK K
    refine Gs.cond rfl (fun h19 => ?_) (fun h19 => ?_)
    · have hpp : p (Utf8.decode s pos).1 = true := by simpa using h19
      refine Gs.sq (Gs.rg [7] fun K hK => ?_); simp (maxSteps:=9^7) only [go_sem]
      refine hK _ _ ?_; clear hK K
      refine Gs.ret hC Tryz.func195 (by simp [go_sem]) ?_
      simp only [go_sem]
      rw [if_pos hpp] at hgf
      rw [hgf]
    · have hpp : ¬ p (Utf8.decode s pos).1 = true := by simpa using h19
      refine Gs.sk ?_
      refine Gs.ib ?_
      refine Gs.rebase [1, 2, 10] ?_
      simp only [go_sem]
      rw [if_neg hpp] at hgf
      exact ih (pos + (Utf8.decode s pos).2) _ _ ⟨g', ⟨hgf, by omega⟩, rfl, rfl⟩ (by omega)
  · have hps2 : ¬ pos < s.size := by omega
    refine Gs.rg [1, 2, 10] fun K hK => ?_; simp (maxSteps:=9^7) only [go_sem, hps2]
    refine hK _ _ ?_; clear hK K
    refine Gs.sq ?_
    refine Gs.condF rfl ?_
    refine Gs.exit rfl ?_
    refine Gs.sq (Gs.rg [] fun K hK => ?_); simp (maxSteps:=9^7) only [go_sem]
    refine hK _ _ ?_; clear hK K
    refine Gs.ret hC Tryz.func195 (by simp [go_sem]) ?_
    simp only [go_sem]
    rw [← hgf, Lib.idxFuncFrom_end p true s gf pos hps2]
theorem strIndexFunc_calls (s : ByteArray) (g : FuncId) (p : Nat → Bool) (σ : Store) (hcall : ∀ args w, (callFunc g args).run Tryz.prog w = .ok (.enter g args) w)
    (hp : ∀ (r : Nat) (σ : Store), AC Tryz.prog g [.v (.int .i32 (r : Int))] σ (fun e σ' => e = .ret (.v (.bool (p r))) ∧ σ' = σ)) :
    AC Tryz.prog 165 [.v (.string s), .clo (.func g) [] []] σ (fun e σ' => e = .ret (.v (.int .i64 (Lib.idxFunc p true s))) ∧ σ' = σ) := by
  refine AC.of_body Tryz.func165 rfl Tryz.ntmps165 (by simp) fun C hC => ?_
  refine Gs.sq (Gs.rg [0, 1] fun K hK => ?_); simp (maxSteps:=9^7) only [go_sem]
  refine hK _ _ ?_; clear hK K
  refine Gs.sq (Gs.rg [0, 1] fun K hK => ?_); simp (maxSteps:=9^7) only [go_sem]
  refine ⟨_, Tryz.call195, (indexFunc_calls s g p _ hcall hp).mono ?_⟩
  rintro e σ1 ⟨rfl, rfl⟩
  simp only [go_sem]
  refine hK _ _ ?_; clear hK K
  refine Gs.ret hC Tryz.func165 (by simp [go_sem]) ?_
  simp only [go_sem]
theorem clean1_calls (r : Nat) (σ : Store) : AC Tryz.prog 166 [.v (.int .i32 (r : Int))] σ (fun e σ' => e = .ret (.v (.bool (!plainN r))) ∧ σ' = σ) := by
  refine AC.of_body Tryz.func166 rfl Tryz.ntmps166 (by simp) fun C hC => ?_
  refine Gs.sq (Gs.rg [0] fun K hK => ?_); simp (maxSteps:=9^7) only [go_sem]
  refine hK _ _ ?_; clear hK K
  refine Gs.sq (Gs.rg [0] fun K hK => ?_); simp (maxSteps:=9^7) only [go_sem]
  refine ⟨_, Tryz.call167, (plain_calls r _).mono ?_⟩
  rintro e σ1 ⟨rfl, rfl⟩
  simp only [go_sem]
  refine hK _ _ ?_; clear hK K
  refine Gs.ret hC Tryz.func166 (by simp [go_sem]) ?_
  simp only [go_sem]
def plainB (c : UInt8) : Bool := decide (97 ≤ c.toNat ∧ c.toNat ≤ 122) || decide (65 ≤ c.toNat ∧ c.toNat ≤ 90) || decide (48 ≤ c.toNat ∧ c.toNat ≤ 57) || dots.data.toList.contains c
theorem plainN_lt (c : UInt8) (h : c.toNat < 128) : plainN c.toNat = plainB c := by
  unfold plainN plainB
  rw [decide_eq_true h, show UInt8.ofNat c.toNat = c by simp]
  rfl
theorem plainN_ge (n : Nat) (h : 128 ≤ n) : plainN n = false := by
  unfold plainN
  rw [decide_eq_false (by omega : ¬ (97 ≤ n ∧ n ≤ 122)), decide_eq_false (by omega : ¬ (65 ≤ n ∧ n ≤ 90)), decide_eq_false (by omega : ¬ (48 ≤ n ∧ n ≤ 57)), decide_eq_false (by omega : ¬ n < 128)]
  rfl
theorem plainB_lt (c : UInt8) (h : plainB c = true) : c.toNat < 128 := by
  unfold plainB at h
  simp only [Bool.or_eq_true, decide_eq_true_eq] at h
  rcases h with ((h | h) | h) | h
  · omega
  · omega
  · omega
  · have hall : ∀ x ∈ dots.data.toList, x.toNat < 128 := by decide
    exact hall c (by simpa using h)
theorem get_getD (s : ByteArray) (i : Nat) : s.get! i = s.data.toList.getD i 0 := by
  show s.data.get!Internal i = _
  simp [Array.get!Internal_eq_getElem!, List.getD_eq_getElem?_getD, getElem!_def]
  cases s.data[i]? <;> rfl
theorem decN_lt (n b0 b1 b2 b3 : Nat) (h : b0 < 128) : Lib.decodeN n b0 b1 b2 b3 = (b0, 1) := by unfold Lib.decodeN; rw [if_pos h]
theorem decN_ge (n b0 b1 b2 b3 : Nat) (h : 128 ≤ b0) : 128 ≤ (Lib.decodeN n b0 b1 b2 b3).1 := by
  unfold Lib.decodeN
  rw [if_neg (by omega)]
  repeat' split
  all_goals (simp only; omega)
theorem decode_lt (s : ByteArray) (i : Nat) (h : (s.data.toList.getD i 0).toNat < 128) : Utf8.decode s i = ((s.data.toList.getD i 0).toNat, 1) := by
  have hl := decN_lt (s.size - i) (s.get! i).toNat (s.get! (i + 1)).toNat (s.get! (i + 2)).toNat (s.get! (i + 3)).toNat (by rw [get_getD]; exact h)
  rw [← get_getD]
  exact (Lib.decode_at s i).trans hl
theorem decode_ge (s : ByteArray) (i : Nat) (h : 128 ≤ (s.data.toList.getD i 0).toNat) : 128 ≤ (Utf8.decode s i).1 := by
  have hl := decN_ge (s.size - i) (s.get! i).toNat (s.get! (i + 1)).toNat (s.get! (i + 2)).toNat (s.get! (i + 3)).toNat (by rw [get_getD]; exact h)
  rw [Lib.decode_at s i]
  exact hl
theorem idx_from (s : ByteArray) : ∀ (f pos : Nat), s.size ≤ pos + f → (0 ≤ Lib.idxFuncFrom (fun r => !plainN r) true s f pos ↔ ∃ c ∈ (bL s).drop pos, plainB c = false)
  | 0, pos, h => by
    have : (bL s).drop pos = [] := List.drop_eq_nil_of_le (by show s.data.toList.length ≤ pos; simpa using h)
    rw [this]
    simp [Lib.idxFuncFrom]
  | f + 1, pos, h => by
    by_cases hp : pos < s.size
    · have hlt : pos < (bL s).length := by show pos < s.data.toList.length; simpa using hp
      have hgd : s.data.toList.getD pos 0 = (bL s)[pos] := by
        rw [List.getD_eq_getElem?_getD, List.getElem?_eq_getElem (show pos < s.data.toList.length from hlt)]; rfl
      simp only [Lib.idxFuncFrom, if_pos hp]
      rw [List.drop_eq_getElem_cons hlt]
      rcases Nat.lt_or_ge ((bL s)[pos]).toNat 128 with h1 | h1
      · rw [decode_lt s pos (by rw [hgd]; exact h1), hgd]
        simp only
        rw [plainN_lt _ h1]
        cases hc : plainB (bL s)[pos]
        · simp only [Bool.not_false, if_true]
          exact ⟨fun _ => ⟨_, List.mem_cons_self .., hc⟩, fun _ => by omega⟩
        · simp only [Bool.not_true, Bool.false_eq_true, if_false]
          rw [idx_from s f (pos + 1) (by omega)]
          constructor
          · rintro ⟨c, hm, hn⟩
            exact ⟨c, .tail _ hm, hn⟩
          · rintro ⟨c, hm, hn⟩
            rcases List.mem_cons.1 hm with rfl | hm
            · rw [hc] at hn; cases hn
            · exact ⟨c, hm, hn⟩
      · have hpg := plainN_ge _ (decode_ge s pos (by rw [hgd]; exact h1))
        simp only [hpg, Bool.not_false, if_true]
        refine ⟨fun _ => ⟨_, List.mem_cons_self .., ?_⟩, fun _ => by omega⟩
        cases hc : plainB (bL s)[pos] with
        | false => rfl
        | true => have := plainB_lt _ hc; omega
    · have : (bL s).drop pos = [] := List.drop_eq_nil_of_le (by show s.data.toList.length ≤ pos; simp; omega)
      rw [this, Lib.idxFuncFrom_end _ _ _ _ _ hp]
      simp
theorem idx_plain (s : ByteArray) : decide (Lib.idxFunc (fun r => !plainN r) true s ≥ 0) = !(bL s).all plainB := by
  have h := idx_from s s.size 0 (by omega)
  rw [List.drop_zero] at h
  cases ha : (bL s).all plainB
  · refine decide_eq_true (h.2 ?_)
    rw [List.all_eq_false] at ha
    obtain ⟨c, hc, hn⟩ := ha
    exact ⟨c, hc, by simpa using hn⟩
  · refine decide_eq_false fun hh => ?_
    obtain ⟨c, hc, hn⟩ := h.1 hh
    rw [List.all_eq_true] at ha
    rw [ha c hc] at hn; cases hn
end Go.Ab.S16
namespace Go.Ab
open Go
variable {P : Program} {l : Nat} {args : List D} {σ σ1 ρ : Store} {R : AEnd → Store → Prop}
theorem RoundsTo.mono {vs : List Value} {w : World} {R R' : Ending → World → Prop} (h : RoundsTo P l vs w R) (hr : ∀ e w', R e w' → R' e w') : RoundsTo P l vs w R' := by
  obtain ⟨lp, hl, hn, hgo⟩ := h
  exact ⟨lp, hl, hn, fun c cs => by
    obtain ⟨e, w', h1, h2⟩ := hgo c cs
    exact ⟨e, w', hr _ _ h1, h2⟩⟩
theorem frame_end {w w' : World} {S : Nat → Prop} (hS : SOk w S) (hst : RepStore w S σ) (h1 : SLe σ1 σ) (h2 : SLe ρ σ) (h3 : Apart ρ σ1) {e : Ending} (hR : ∃ ae σ' S', R ae σ' ∧ RepEnd w' S' ae e ∧ RepStore w' S' σ' ∧ Fr w S (sdom σ1) w' S' σ') :
    ∃ ae σ' S', (∃ σ1', R ae σ1' ∧ Apart ρ σ1' ∧ σ' = σ1' ++ ρ) ∧ RepEnd w' S' ae e ∧ RepStore w' S' σ' ∧ Fr w S (sdom σ) w' S' σ' := by
  obtain ⟨ae, σ1', S', hR, hend, hst', hfr⟩ := hR
  have hap : Apart ρ σ1' := fun b hb => by
    cases hs : sget b σ1' with
    | none => rfl
    | some o =>
      obtain ⟨x, hx⟩ := Option.ne_none_iff_exists'.1 hb
      rcases hfr.dom b (by unfold sdom; rw [hs]; simp) with hd | hd
      · exact absurd (h3 b hb) hd
      · have := (hst b x (h2 b x hx)).2.lt; omega
  have hE : Ev w S w' S' := hfr.ev fun b hb => ⟨hS.lt b hb, fun hd => by
    unfold sdom at hd
    cases hs : sget b σ1 with
    | none => exact hd hs
    | some o => exact (hst b o (h1 b o hs)).1 hb⟩
  refine ⟨ae, σ1' ++ ρ, S', ⟨σ1', hR, hap, rfl⟩, hend, fun b o hb => ?_, { hfr with block := fun b hb hd => ?_, new := fun b hb => ?_, dom := fun b hb => ?_ }⟩
  · rw [sget_append] at hb
    split at hb
    · rename_i x hx; cases hb; exact hst' b _ hx
    · have hr := hst b o (h2 b o hb)
      have hn : ¬ sdom σ1 b := fun hd => hd (h3 b (by rw [hb]; simp))
      have hlt := hr.2.lt
      refine ⟨fun hs => ?_, hr.2.ev hE (hfr.block b hlt hn)⟩
      rcases hfr.new b hs with h4 | h4 | h4
      · exact hr.1 h4
      · exact hn h4
      · omega
  · exact hfr.block b hb fun hd1 => hd (by
      unfold sdom at *
      cases hs : sget b σ1 with
      | none => exact absurd hs hd1
      | some o => rw [h1 b o hs]; simp)
  · rcases hfr.new b hb with h4 | h4 | h4
    · exact .inl h4
    · refine .inr (.inl ?_)
      unfold sdom at *
      cases hs : sget b σ1 with
      | none => exact absurd hs h4
      | some o => rw [h1 b o hs]; simp
    · exact .inr (.inr h4)
  · unfold sdom at hb
    rw [sget_append] at hb
    split at hb
    · rename_i x hx
      rcases hfr.dom b (by unfold sdom; rw [hx]; simp) with h4 | h4
      · refine .inl ?_
        unfold sdom at *
        cases hs : sget b σ1 with
        | none => exact absurd hs h4
        | some o => rw [h1 b o hs]; simp
      · exact .inr h4
    · refine .inl ?_
      unfold sdom
      cases hs : sget b ρ with
      | none => exact absurd hs hb
      | some o => rw [h2 b o hs]; simp
theorem AYields.frame (h : AYields P l args σ1 R) (h1 : SLe σ1 σ) (h2 : SLe ρ σ) (h3 : Apart ρ σ1) :
    AYields P l args σ (fun e σ' => ∃ σ1', R e σ1' ∧ Apart ρ σ1' ∧ σ' = σ1' ++ ρ) := fun w S vs hS hst hv =>
  (h w S vs hS (hst.le h1) hv).mono fun _ _ hh => frame_end hS hst h1 h2 h3 hh
theorem AYields.store_le (h : AYields P l args σ1 R) (h1 : SLe σ1 σ) : AYields P l args σ R := by
  have := h.frame (ρ := []) h1 (SLe.nil _) (Apart.nil _)
  refine this.mono ?_
  rintro e σ' ⟨σ1', hR, _, rfl⟩
  rw [List.append_nil]; exact hR
end Go.Ab
namespace Go.Ab
open Go
section
variable {P : Program} {n : Nat} {C : Ctx P ⟨n, []⟩} {k : List Item} {env : Env} {σ τ : Store} {l : Nat} {R : AEnd → Store → Prop} {st : LoopState} {pd : Option Code} {f : FuncId} {m : Nat} {env0 : Env} {ps : Array Tmp} {asg bd : Code} {df : Nat}
def IsLP (LP : LoopState → Option Code → AObj) (f : FuncId) (m : Nat) (env0 : Env) (ps : Array Tmp) (asg bd : Code) (df : Nat) : Prop := ∀ st pd, LP st pd = .lp st pd f m env0 ps asg bd df
variable {LP : LoopState → Option Code → AObj}
theorem AYields.of_bodyL {args : List D} {fn : Func} (hLP : IsLP LP f n env0 ps asg bd df) (hf : P.funcs[f]? = some fn) (hl : sget l σ = some (LP st pd)) (hps : ∀ p ∈ ps.toList, p < n) (hn : args.length = ps.size)
    (h : ∀ C : Ctx P ⟨n, []⟩, IsRound C l R → Gs C [.code asg, .beginRound, .code bd] (parEnv ps.toList args env0) σ) : AYields P l args σ R := by
  rw [hLP] at hl
  exact AYields.of_body hf hl hps hn h
theorem Gs.beginRoundL (hC : IsRound C l R) (hLP : IsLP LP f m env0 ps asg bd df) (hl : sget l σ = some (LP .ready pd)) (h : Gs C k env (sset l (LP .busy pd) σ)) : Gs C (.beginRound :: k) env σ := by
  rw [hLP] at hl h
  exact Gs.beginRound hC hl h
theorem Gs.roundDoneL (hC : IsRound C l R) (hLP : IsLP LP f m env0 ps asg bd df) (hl : sget l σ = some (LP st pd)) (hR : R (.ret (.v (.bool true))) (sset l (LP .ready none) σ)) : Gs C [] env σ := by
  rw [hLP] at hl hR
  exact Gs.roundDone hC hl hR
theorem Gs.roundRetL (hC : IsRound C l R) (hLP : IsLP LP f m env0 ps asg bd df) (hl : sget l σ = some (LP st pd)) (hR : R (.ret (.v (.bool false))) (sset l (LP .done (some .ret)) σ)) : Gs C (.code .ret :: k) env σ := by
  rw [hLP] at hl hR
  exact Gs.roundRet hC hl hR
theorem Gs.rangeFuncL {N : Slots} {C : Ctx P N} {ms : List Nat} (hC : IsCallM C f R ms) {g : Operand} {gf : FuncId} {caps : List D} (hg : ev env g = .clo (.func gf) [] caps) (he : ∀ args w, (callFunc gf args).run P w = .ok (.enter gf args) w)
    (h : ∀ (l r : Nat) (C' : Ctx P N) (LP : LoopState → Option Code → AObj), IsLP LP f N.n env ps asg bd r → sget r σ = none → sget l ((r, .dblk) :: σ) = none → IsCallM C' f R (r :: ms) →
      AC P gf (.clo (.yield l) [] [] :: caps) ((l, LP .ready none) :: (r, .dblk) :: σ) (fun e σ' => match e with
        | .ret _ => ∃ st pd, sget l σ' = some (LP st pd) ∧ (st == .busy) = false ∧ Gs C' ((pd.map Item.code).toList ++ k) env (sset l (LP .exhausted pd) σ')
        | .panic d => Pan C' d σ')) : Gs C (.code (.rangeFunc g ps asg bd) :: k) env σ := by
  refine Gs.rangeFunc hC hg he fun l r C' hr hl hC' => ?_
  have := h l r C' (fun st pd => .lp st pd f N.n env ps asg bd r) (fun _ _ => rfl) hr hl hC'
  exact this
theorem SLe.sset {b : Nat} {x : AObj} (h : SLe τ σ) (hb : (sget b τ).isSome = true) : SLe (Ab.sset b x τ) (Ab.sset b x σ) := fun c o hc => by
  rw [sget_sset] at hc ⊢
  split at hc
  · rename_i e
    rw [if_pos e]
    obtain ⟨y, hy⟩ := Option.isSome_iff_exists.1 hb
    rw [h b y hy]
    rw [hy] at hc; exact hc
  · rename_i e
    rw [if_neg e]
    exact h c o hc
end
end Go.Ab
namespace Go.Ab.S16
open Go Go.Proofs Go.RowKit
theorem sset_app {b : Nat} {x : AObj} : ∀ {τ ρ : Store}, sget b τ = none → sset b x (τ ++ ρ) = τ ++ sset b x ρ
  | [], _, _ => rfl
  | (c, o) :: τ, ρ, h => by
    rw [sget_cons] at h
    split at h
    · cases h
    · rename_i hn
      rw [List.cons_append, sset_ne hn, sset_app h]; rfl
def seqC (bs bc bk : Nat) (s : List UInt8) (c : UInt8) (save : Nat) : Store := [(bk, .arr 1 [.v (.int .i64 (save : Int))]), (bc, .arr 1 [.v (.string ⟨#[c]⟩)]), (bs, .arr 1 [.v (.string (lB s))])]
structure SeqN (bs bc bk : Nat) : Prop where
  sc : bs ≠ bc
  sk : bs ≠ bk
  ck : bc ≠ bk
section
variable {bs bc bk : Nat} {s : List UInt8} {c : UInt8} {save : Nat} {τ : Store}
theorem seq_s (h : SeqN bs bc bk) : sget bs (seqC bs bc bk s c save) = some (.arr 1 [.v (.string (lB s))]) := by
  unfold seqC
  rw [sget_cons, if_neg h.sk, sget_cons, if_neg h.sc, sget_self]
theorem seq_c (h : SeqN bs bc bk) : sget bc (seqC bs bc bk s c save) = some (.arr 1 [.v (.string ⟨#[c]⟩)]) := by
  unfold seqC
  rw [sget_cons, if_neg h.ck, sget_self]
theorem seq_k : sget bk (seqC bs bc bk s c save) = some (.arr 1 [.v (.int .i64 (save : Int))]) := by
  unfold seqC
  rw [sget_self]
theorem seq_set (h : SeqN bs bc bk) (r : List UInt8) : sset bs (.arr 1 [.v (.string (lB r))]) (seqC bs bc bk s c save) = seqC bs bc bk r c save := by
  unfold seqC
  rw [sset_ne h.sk, sset_ne h.sc, sset_self]
theorem seq_apart (h : Apart (seqC bs bc bk s c save) τ) (r : List UInt8) : Apart (seqC bs bc bk r c save) τ := fun b hb => by
  by_cases h1 : b = bk
  · exact h b (by rw [h1]; unfold seqC; simp)
  · by_cases h2 : b = bc
    · exact h b (by rw [h2]; unfold seqC; rw [sget_cons]; split <;> simp)
    · by_cases h3 : b = bs
      · exact h b (by rw [h3]; unfold seqC; rw [sget_cons]; split; (· simp); rw [sget_cons]; split <;> simp)
      · refine absurd ?_ hb
        unfold seqC
        rw [sget_cons, if_neg h1, sget_cons, if_neg h2, sget_cons, if_neg h3]; rfl
end
theorem at3 {α : Type} (a b c d : α) (l : List α) : (a :: b :: c :: d :: l).toArray[3]? = some d := rfl
theorem indexByte_cases : ∀ (l : List UInt8) (c : UInt8), Lib.indexByte l c = -1 ∨ ∃ k : Nat, k < l.length ∧ Lib.indexByte l c = (k : Int)
  | [], _ => .inl rfl
  | b :: l, c => by
    rw [Lib.indexByte]
    split
    · exact .inr ⟨0, by simp, rfl⟩
    · rcases indexByte_cases l c with h | ⟨k, h1, h2⟩
      · rw [h]; exact .inl rfl
      · rw [h2]
        refine .inr ⟨k + 1, by simp; omega, ?_⟩
        have hne : ((k : Int) == -1) = false := by rw [beq_eq_false_iff_ne]; omega
        rw [hne]; rfl
theorem lB_extract (l : List UInt8) (a b : Nat) : (lB l).extract a b = lB ((l.take b).drop a) := by
  have e : ∀ x y : ByteArray, x.data = y.data → x = y := fun x y h => by cases x; cases y; cases h; rfl
  apply e
  rw [ByteArray.data_extract]
  show l.toArray.extract a b = ((l.take b).drop a).toArray
  simp [List.extract_toArray, List.extract_eq_take_drop, List.drop_take]
theorem lB_size (l : List UInt8) : (lB l).size = l.length := by show l.toArray.size = l.length; simp
structure SeqB (l : Nat) (c : UInt8) (save : Nat) (I : List UInt8 → Store → Prop) (Q : AEnd → Store → Prop) : Prop where
  mid : ∀ r k τ, I r τ → Lib.indexByte r c = ((k : Nat) : Int) → k < r.length → AYields Tryz.prog l [.v (.string (lB (r.take (k + save))))] τ (fun e τ' => (e = .ret (.v (.bool true)) ∧ I (r.drop (k + 1)) τ') ∨ (e = .ret (.v (.bool false)) ∧ Q (.ret (.tup [])) τ') ∨ ∃ d, e = .panic d ∧ Q (.panic d) τ')
  last : ∀ r τ, I r τ → Lib.indexByte r c = -1 → AYields Tryz.prog l [.v (.string (lB r))] τ (fun e τ' => (∃ b, e = .ret (.v (.bool b)) ∧ Q (.ret (.tup [])) τ') ∨ ∃ d, e = .panic d ∧ Q (.panic d) τ')
theorem splitSeq1_calls {l : Nat} {c : UInt8} {save : Nat} (hsave : save ≤ 1) {I : List UInt8 → Store → Prop} {Q : AEnd → Store → Prop} (hb : SeqB l c save I Q) {bs bc bk : Nat} (hN : SeqN bs bc bk) (s : List UInt8) (hlen : s.length < 2 ^ 40)
    (τ σ : Store) (hI : I s τ) (hap : Apart (seqC bs bc bk s c save) τ) (h1 : SLe τ σ) (h2 : SLe (seqC bs bc bk s c save) σ) :
    AC Tryz.prog 208 [.clo (.yield l) [] [], .ptr bc 1 0 0, .ptr bs 1 0 0, .ptr bk 1 0 0] σ (fun e σ' => ∃ τ', SLe τ' σ' ∧ Q e τ') := by
  refine AC.store_le (σ1 := τ ++ seqC bs bc bk s c save) ?_ (h1.append h2)
  refine AC.of_body Tryz.func208 rfl Tryz.ntmps208 (by simp) fun C hC => ?_
  have hnb : ∀ {r τ}, Apart (seqC bs bc bk r c save) τ → sget bs τ = none ∧ sget bc τ = none ∧ sget bk τ = none := fun {r τ} h => ⟨h bs (by rw [seq_s hN]; simp), h bc (by rw [seq_c hN]; simp), h bk (by rw [seq_k]; simp)⟩
  have gs : ∀ {r τ}, Apart (seqC bs bc bk r c save) τ → sget bs (τ ++ seqC bs bc bk r c save) = some (.arr 1 [.v (.string (lB r))]) := fun {r τ} h => by rw [sget_append_none (hnb h).1, seq_s hN]
  have gc : ∀ {r τ}, Apart (seqC bs bc bk r c save) τ → sget bc (τ ++ seqC bs bc bk r c save) = some (.arr 1 [.v (.string ⟨#[c]⟩)]) := fun {r τ} h => by rw [sget_append_none (hnb h).2.1, seq_c hN]
  have gk : ∀ {r τ}, Apart (seqC bs bc bk r c save) τ → sget bk (τ ++ seqC bs bc bk r c save) = some (.arr 1 [.v (.int .i64 (save : Int))]) := fun {r τ} h => by rw [sget_append_none (hnb h).2.2, seq_k]
  have ss : ∀ {r τ} (r' : List UInt8), Apart (seqC bs bc bk r c save) τ → sset bs (.arr 1 [.v (.string (lB r'))]) (τ ++ seqC bs bc bk r c save) = τ ++ seqC bs bc bk r' c save := fun {r τ} r' h => by rw [sset_app (hnb h).1, seq_set hN]
  have hc1 : (⟨#[c]⟩ : ByteArray).size = 1 := rfl
  refine Gs.sq (Gs.sq ?_)
  have g1 := gc hap
  refine Gs.rg [0, 1, 2, 3] fun K hK => ?_; simp (maxSteps:=9^7) only [go_sem, g1, hc1]
  refine hK _ _ ?_; clear hK K
  refine Gs.condF rfl ?_
  refine Gs.sk ?_
  refine Gs.sq ?_
  refine Gs.bk ?_
  refine Gs.rebase [0, 1, 2, 3] ?_
  simp only [go_sem]
  refine Gs.while (fun (r : List UInt8) env' σ'' => ∃ τ1 : Store, (I r τ1 ∧ Apart (seqC bs bc bk r c save) τ1 ∧ r.length ≤ s.length) ∧ env' = [(0, .clo (.yield l) [] []), (1, .ptr bc 1 0 0), (2, .ptr bs 1 0 0), (3, .ptr bk 1 0 0)] ∧ σ'' = τ1 ++ seqC bs bc bk r c save) (fun (r : List UInt8) => r.length) s ⟨τ, ⟨hI, hap, Nat.le_refl _⟩, rfl, rfl⟩ ?_
  rintro r env' σ'' ⟨τ1, ⟨hI1, hap1, hl1⟩, rfl, rfl⟩ ih
  have ih1 := ih
  have g2 := gs hap1
  have g3 := gc hap1
  have g4 := gk hap1
  have hsz := lB_size r
  refine Gs.bk ?_
  refine Gs.sq ?_
  rcases indexByte_cases r c with hk | ⟨k, hkl, hk⟩
  · refine Gs.rg [0, 1, 2, 3] fun K hK => ?_; simp (maxSteps:=9^7) only [go_sem, g2, g3]
    refine ⟨_, Tryz.call210, (index1_calls (lB r) c _).mono ?_⟩
    rintro e σ1 ⟨rfl, rfl⟩
    simp only [go_sem]
    have hk1 : Lib.indexByte (lB r).data.toList c = -1 := hk
    simp only [hk1] at hK ⊢
    refine hK _ _ ?_; clear hK K
    refine Gs.sq (Gs.sq ?_)
    refine Gs.rg [0, 1, 2, 3, 7] fun K hK => ?_; simp (maxSteps:=9^7) only [go_sem]
    refine hK _ _ ?_; clear hK K
    refine Gs.condT rfl ?_
    refine Gs.exit rfl ?_
    refine Gs.regionOpen [0, 2] ?_
    refine Gs.op (at0 _ _) rfl nofun dstB_lit ?_
    simp only [go_sem]
    refine Gs.op (at1 _ _ _) rfl nofun dstB_lit ?_
    simp only [go_sem, g2]
    refine Gs.opYield (at2 _ _ _ _) rfl rfl dstB_lit rfl ?_
    simp only [go_sem]
    refine ((hb.last r τ1 hI1 hk).frame (SLe.append_left _ _) (SLe.append_right hap1) hap1).mono ?_
    rintro e σ' ⟨τ', hcase, hap', rfl⟩
    rcases hcase with ⟨bb, rfl, hQ⟩ | ⟨d, rfl, hQ⟩
    rotate_left
    · exact Pan.of hC Tryz.func208 ⟨τ', SLe.append_left _ _, hQ⟩
    refine Gs.regionEnd ?_
    refine Gs.done hC Tryz.func208 (by simp [go_sem]) ?_
    simp only [go_sem]
    exact ⟨τ', SLe.append_left _ _, hQ⟩
  · refine Gs.rg [0, 1, 2, 3] fun K hK => ?_; simp (maxSteps:=9^7) only [go_sem, g2, g3]
    refine ⟨_, Tryz.call210, (index1_calls (lB r) c _).mono ?_⟩
    rintro e σ1 ⟨rfl, rfl⟩
    simp only [go_sem]
    have hk1 : Lib.indexByte (lB r).data.toList c = (k : Int) := hk
    simp only [hk1] at hK ⊢
    refine hK _ _ ?_; clear hK K
    refine Gs.sq (Gs.sq ?_)
    refine Gs.rg [0, 1, 2, 3, 7] fun K hK => ?_; simp (maxSteps:=9^7) only [go_sem]
    refine hK _ _ ?_; clear hK K
    refine Gs.condF rfl ?_
    refine Gs.sk ?_
    refine Gs.sq ?_
    have hw : IntKind.i64.wrap ((k : Int) + (save : Int)) = ((k + save : Nat) : Int) := by rw [wrap_in _ (by omega) (by omega)]; omega
    have hx : (lB r).extract 0 (k + save) = lB (r.take (k + save)) := by rw [lB_extract]; rfl
    refine Gs.rg [0, 1, 2, 3, 7] fun K hK => ?_; simp (maxSteps:=9^7) only [go_sem, g2, g4, hw, hx]
    refine ⟨⟨by omega, by rw [hsz]; omega⟩, ?_⟩
    refine hK _ _ ?_; clear hK K
    refine Gs.sq (Gs.sq ?_)
    refine Gs.regionOpen [0, 1, 2, 3, 7, 8] ?_
    refine Gs.op (at0 _ _) rfl nofun dstB_lit ?_
    simp only [go_sem]
    refine Gs.op (at1 _ _ _) rfl nofun dstB_lit ?_
    simp only [go_sem]
    refine Gs.opYield (at2 _ _ _ _) rfl rfl dstB_lit rfl ?_
    simp only [go_sem]
    refine ((hb.mid r k τ1 hI1 hk hkl).frame (SLe.append_left _ _) (SLe.append_right hap1) hap1).mono ?_
    rintro e σ' ⟨τ', hcase, hap', rfl⟩
    rcases hcase with ⟨rfl, hI'⟩ | ⟨rfl, hQ⟩ | ⟨d, rfl, hQ⟩
    rotate_left
    · refine Gs.op (at3 _ _ _ _ _) rfl nofun dstB_lit ?_
      simp only [go_sem]
      refine Gs.regionEnd ?_
      refine Gs.condT rfl ?_
      refine Gs.ret hC Tryz.func208 (by simp [go_sem]) ?_
      simp only [go_sem]
      exact ⟨τ', SLe.append_left _ _, hQ⟩
    · exact Pan.of hC Tryz.func208 ⟨τ', SLe.append_left _ _, hQ⟩
    refine Gs.op (at3 _ _ _ _ _) rfl nofun dstB_lit ?_
    simp only [go_sem]
    refine Gs.regionEnd ?_
    refine Gs.condF rfl ?_
    refine Gs.sk ?_
    have g5 := gs hap'
    have g6 := gc hap'
    have hw1 : IntKind.i64.wrap ((k : Int) + ((1 : Nat) : Int)) = ((k + 1 : Nat) : Int) := wrap_succ k (by omega)
    have hx1 : (lB r).extract (k + 1) (lB r).size = lB (r.drop (k + 1)) := by rw [lB_extract, lB_size, List.take_of_length_le (Nat.le_refl _)]
    have g7 := ss (r.drop (k + 1)) hap'
    refine Gs.rg [0, 1, 2, 3, 7] fun K hK => ?_; simp (maxSteps:=9^7) only [go_sem, g5, g6, hc1, hw1, hx1, g7]
    refine ⟨⟨by omega, by rw [hsz]; omega, Int.le_refl _⟩, ?_⟩
    refine hK _ _ ?_; clear hK K
    refine Gs.ib ?_
    refine Gs.rebase [0, 1, 2, 3] ?_
    simp only [go_sem]
    refine ih (r.drop (k + 1)) _ _ ⟨τ', ⟨hI', seq_apart hap' _, ?_⟩, rfl, rfl⟩ ?_
    · rw [List.length_drop]; omega
    · rw [List.length_drop]; omega
theorem splitSeq_calls (s : List UInt8) (c : UInt8) (save : Nat) (σ : Store) :
    AC Tryz.prog 193 [.v (.string (lB s)), .v (.string ⟨#[c]⟩), .v (.int .i64 (save : Int))] σ (fun e σ' => ∃ bs bc bk, SeqN bs bc bk ∧ Apart (seqC bs bc bk s c save) σ ∧ e = .ret (.clo (.func 208) [] [.ptr bc 1 0 0, .ptr bs 1 0 0, .ptr bk 1 0 0]) ∧ σ' = seqC bs bc bk s c save ++ σ) := by
  refine AC.of_body Tryz.func193 rfl Tryz.ntmps193 (by simp) fun C hC => ?_
  refine Gs.sq (Gs.rg [0, 1, 2] fun K hK => ?_); simp (maxSteps:=9^7) only [go_sem]
  intro bs hbs bc hbc bk hbk
  refine hK _ _ ?_; clear hK K
  refine Gs.sq (Gs.rg [3, 4, 5] fun K hK => ?_); simp (maxSteps:=9^7) only [go_sem]
  refine hK _ _ ?_; clear hK K
  refine Gs.ret hC Tryz.func193 (by simp [go_sem]) ?_
  simp only [go_sem]
  have hN : SeqN bs bc bk := by
    refine ⟨fun h => ?_, fun h => ?_, fun h => ?_⟩
    · subst h; simp at hbc
    · subst h; rw [sget_cons] at hbk; split at hbk <;> simp at hbk
    · subst h; simp at hbk
  refine ⟨bs, bc, bk, hN, ?_, rfl, rfl⟩
  rw [sget_cons, if_neg (Ne.symm hN.sc)] at hbc
  rw [sget_cons, if_neg (Ne.symm hN.ck), sget_cons, if_neg (Ne.symm hN.sk)] at hbk
  exact .cons hbk (.cons hbc (.cons hbs (Apart.nil _)))
theorem splitS_calls (s : List UInt8) (c : UInt8) (σ : Store) :
    AC Tryz.prog 168 [.v (.string (lB s)), .v (.string ⟨#[c]⟩)] σ (fun e σ' => ∃ bs bc bk, SeqN bs bc bk ∧ Apart (seqC bs bc bk s c 0) σ ∧ e = .ret (.clo (.func 208) [] [.ptr bc 1 0 0, .ptr bs 1 0 0, .ptr bk 1 0 0]) ∧ σ' = seqC bs bc bk s c 0 ++ σ) := by
  refine AC.of_body Tryz.func168 rfl Tryz.ntmps168 (by simp) fun C hC => ?_
  refine Gs.sq (Gs.rg [0, 1] fun K hK => ?_); simp (maxSteps:=9^7) only [go_sem]
  refine hK _ _ ?_; clear hK K
  refine Gs.sq (Gs.rg [0, 1] fun K hK => ?_); simp (maxSteps:=9^7) only [go_sem]
  refine ⟨_, Tryz.call193, (splitSeq_calls s c 0 _).mono ?_⟩
  rintro e σ1 ⟨bs, bc, bk, hN, hap, rfl, rfl⟩
  simp only [go_sem]
  refine hK _ _ ?_; clear hK K
  refine Gs.ret hC Tryz.func168 (by simp [go_sem]) ?_
  simp only [go_sem]
  exact ⟨bs, bc, bk, hN, hap, rfl, rfl⟩
theorem splitA_calls (s : List UInt8) (c : UInt8) (σ : Store) :
    AC Tryz.prog 163 [.v (.string (lB s)), .v (.string ⟨#[c]⟩)] σ (fun e σ' => ∃ bs bc bk, SeqN bs bc bk ∧ Apart (seqC bs bc bk s c 1) σ ∧ e = .ret (.clo (.func 208) [] [.ptr bc 1 0 0, .ptr bs 1 0 0, .ptr bk 1 0 0]) ∧ σ' = seqC bs bc bk s c 1 ++ σ) := by
  refine AC.of_body Tryz.func163 rfl Tryz.ntmps163 (by simp) fun C hC => ?_
  have hc1 : (⟨#[c]⟩ : ByteArray).size = 1 := rfl
  refine Gs.sq (Gs.rg [0, 1] fun K hK => ?_); simp (maxSteps:=9^7) only [go_sem]
  refine hK _ _ ?_; clear hK K
  refine Gs.sq (Gs.rg [0, 1] fun K hK => ?_); simp (maxSteps:=9^7) only [go_sem, hc1]
  refine ⟨_, Tryz.call193, (splitSeq_calls s c 1 _).mono ?_⟩
  rintro e σ1 ⟨bs, bc, bk, hN, hap, rfl, rfl⟩
  simp only [go_sem]
  refine hK _ _ ?_; clear hK K
  refine Gs.ret hC Tryz.func163 (by simp [go_sem]) ?_
  simp only [go_sem]
  exact ⟨bs, bc, bk, hN, hap, rfl, rfl⟩
end Go.Ab.S16
namespace Go.Ab.S16
open Go Go.Proofs Go.RowKit
def closeP (parts : List (List UInt8)) (cur : List UInt8) : Option (List (List UInt8)) :=
  if cur = [] ∨ cur = [46] then some parts else if cur = [46, 46] then (if parts = [] then none else some parts.dropLast) else some (parts ++ [cur])
def clGo : List UInt8 → List UInt8 → List (List UInt8) → Option (List (List UInt8))
  | [], cur, parts => closeP parts cur
  | c :: r, cur, parts => if c = 47 then (closeP parts cur).bind (clGo r []) else clGo r (cur ++ [c]) parts
theorem clGo_mid : ∀ (r cur : List UInt8) (parts : List (List UInt8)) (k : Nat), Lib.indexByte r 47 = (k : Int) → clGo r cur parts = (closeP parts (cur ++ r.take k)).bind (clGo (r.drop (k + 1)) [])
  | [], _, _, k, h => by simp [Lib.indexByte] at h
  | c :: r, cur, parts, k, h => by
    rw [Lib.indexByte] at h
    rw [clGo]
    split at h
    · rename_i hc
      have hk : k = 0 := by omega
      subst hk
      rw [if_pos (by simpa using hc)]
      simp
    · rename_i hc
      rw [if_neg (by simpa using hc)]
      split at h
      · omega
      · obtain ⟨j, rfl⟩ : ∃ j, k = j + 1 := ⟨k - 1, by have := Lib.indexByte_ge r 47; rename_i h2; rw [beq_iff_eq] at h2; omega⟩
        rw [clGo_mid r (cur ++ [c]) parts j (by omega)]
        simp
theorem clGo_last : ∀ (r cur : List UInt8) (parts : List (List UInt8)), Lib.indexByte r 47 = -1 → clGo r cur parts = closeP parts (cur ++ r)
  | [], cur, parts, _ => by simp [clGo]
  | c :: r, cur, parts, h => by
    rw [Lib.indexByte] at h
    rw [clGo]
    split at h
    · omega
    · rename_i hc
      rw [if_neg (by simpa using hc)]
      split at h
      · rename_i h2
        rw [clGo_last r (cur ++ [c]) parts (by simpa using h2)]
        simp
      · have := Lib.indexByte_ge r 47
        omega
def cleanM (s : List UInt8) : List UInt8 × Int :=
  if s.length > 1000 then ([], 3)
  else if s.head? = some 47 ∨ s.all plainB = false then ([], 5)
  else match clGo s [] [] with
    | none => ([], 5)
    | some parts => if Lib.join parts [47] = [] then ([], 5) else if (Lib.join parts [47]).length > 100 then ([], 3) else (Lib.join parts [47], 0)
def pD (p : List UInt8) : D := .v (.string (lB p))
def lenP (parts : List (List UInt8)) : Nat := (parts.map fun p => p.length + 1).sum
theorem lenP_close {parts ps : List (List UInt8)} {cur : List UInt8} (h : closeP parts cur = some ps) : lenP ps ≤ lenP parts + cur.length + 1 := by
  unfold closeP at h
  split at h
  · cases h; omega
  · split at h
    · split at h
      · cases h
      · cases h
        have : ∀ l : List (List UInt8), lenP l.dropLast ≤ lenP l := fun l => by
          unfold lenP
          rw [List.map_dropLast]
          generalize l.map (fun p => p.length + 1) = m
          induction m with
          | nil => exact Nat.le_refl _
          | cons x m ih =>
            cases m with
            | nil => simp
            | cons y m => rw [List.dropLast_cons_cons, List.sum_cons, List.sum_cons]; omega
        have := this parts
        omega
    · cases h
      unfold lenP
      rw [List.map_append, List.sum_append]
      simp; omega
theorem lenP_length (parts : List (List UInt8)) : parts.length ≤ lenP parts := by
  unfold lenP
  induction parts with
  | nil => exact Nat.le_refl _
  | cons p r ih => rw [List.map_cons, List.sum_cons, List.length_cons]; omega
theorem lenP_join (parts : List (List UInt8)) (c : UInt8) : (Lib.join parts [c]).length ≤ lenP parts := by
  cases parts with
  | nil => simp [Lib.join_nil]
  | cons x r =>
    rw [Lib.join_cons]
    unfold lenP Lib.joinTail
    rw [List.length_append, List.length_flatten, List.map_cons, List.sum_cons, List.map_map]
    have : (r.map (List.length ∘ fun x => [c] ++ x)).sum = (r.map fun p => p.length + 1).sum := by
      congr 1
    omega
def clS (l r b2 b3 b4 : Nat) (x : AObj) (v2 v3 v4 : D) : Store := [(l, x), (r, .dblk), (b4, .arr 1 [v4]), (b3, .arr 1 [v3]), (b2, .arr 1 [v2])]
structure ClN (l r b2 b3 b4 : Nat) : Prop where
  lr : l ≠ r
  l2 : l ≠ b2
  l3 : l ≠ b3
  l4 : l ≠ b4
  r2 : r ≠ b2
  r3 : r ≠ b3
  r4 : r ≠ b4
  h23 : b2 ≠ b3
  h24 : b2 ≠ b4
  h34 : b3 ≠ b4
section
variable {l r b2 b3 b4 : Nat} {x y : AObj} {v2 v3 v4 w2 w3 w4 : D}
theorem cl_l : sget l (clS l r b2 b3 b4 x v2 v3 v4) = some x := sget_self ..
theorem cl_4 (h : ClN l r b2 b3 b4) : sget b4 (clS l r b2 b3 b4 x v2 v3 v4) = some (.arr 1 [v4]) := by
  unfold clS
  rw [sget_cons, if_neg (Ne.symm h.l4), sget_cons, if_neg (Ne.symm h.r4), sget_self]
theorem cl_3 (h : ClN l r b2 b3 b4) : sget b3 (clS l r b2 b3 b4 x v2 v3 v4) = some (.arr 1 [v3]) := by
  unfold clS
  rw [sget_cons, if_neg (Ne.symm h.l3), sget_cons, if_neg (Ne.symm h.r3), sget_cons, if_neg h.h34, sget_self]
theorem cl_2 (h : ClN l r b2 b3 b4) : sget b2 (clS l r b2 b3 b4 x v2 v3 v4) = some (.arr 1 [v2]) := by
  unfold clS
  rw [sget_cons, if_neg (Ne.symm h.l2), sget_cons, if_neg (Ne.symm h.r2), sget_cons, if_neg h.h24, sget_cons, if_neg h.h23, sget_self]
theorem cl_sl : sset l y (clS l r b2 b3 b4 x v2 v3 v4) = clS l r b2 b3 b4 y v2 v3 v4 := by
  unfold clS
  rw [sset_self]
theorem cl_s4 (h : ClN l r b2 b3 b4) : sset b4 (.arr 1 [w4]) (clS l r b2 b3 b4 x v2 v3 v4) = clS l r b2 b3 b4 x v2 v3 w4 := by
  unfold clS
  rw [sset_ne (Ne.symm h.l4), sset_ne (Ne.symm h.r4), sset_self]
theorem cl_s3 (h : ClN l r b2 b3 b4) : sset b3 (.arr 1 [w3]) (clS l r b2 b3 b4 x v2 v3 v4) = clS l r b2 b3 b4 x v2 w3 v4 := by
  unfold clS
  rw [sset_ne (Ne.symm h.l3), sset_ne (Ne.symm h.r3), sset_ne h.h34, sset_self]
theorem cl_s2 (h : ClN l r b2 b3 b4) : sset b2 (.arr 1 [w2]) (clS l r b2 b3 b4 x v2 v3 v4) = clS l r b2 b3 b4 x w2 v3 v4 := by
  unfold clS
  rw [sset_ne (Ne.symm h.l2), sset_ne (Ne.symm h.r2), sset_ne h.h24, sset_ne h.h23, sset_self]
theorem cl_none {b : Nat} (h : sget b (clS l r b2 b3 b4 x v2 v3 v4) = none) : sget b (clS l r b2 b3 b4 y w2 w3 w4) = none := by
  unfold clS at *
  simp only [sget_cons] at *
  repeat' split at h
  all_goals first | cases h | skip
  simp_all
theorem cl_grd {o : Option Nat} {sz : Nat} {xs : List D} (h : GrD o sz xs (clS l r b2 b3 b4 x v2 v3 v4)) : GrD o sz xs (clS l r b2 b3 b4 y w2 w3 w4) := by
  refine ⟨?_, h.2⟩
  cases o with
  | none => exact fresh_none
  | some b => exact fun c hc => cl_none (h.1 c hc)
end
end Go.Ab.S16
