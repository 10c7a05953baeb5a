/- A part of a proof about the given program: the abstract machine, what functions compute, laid in few texts. -/
import Derived.Test.YticjnnmnjfpopaaGreatDoorKMf
set_option linter.unusedSimpArgs false
set_option linter.unusedVariables false
set_option linter.constructorNameAsVariable false
namespace Go.Ab.S16
open Go Go.Proofs Go.RowKit
/-- What stands behind a line that was put: the bytes, the names that were put in, how many lines include. -/
structure PSt where
  out : List UInt8
  found : List ByteArray
  many : Nat
/-- The name that a line includes. -/
def inclT (line : List UInt8) : List UInt8 := bL (trimS (lB line) ⟨#[10]⟩)
def inclN (line : List UInt8) : Option (List UInt8) := if Lib.hasPrefix (inclT line) incl then some ((inclT line).drop 9) else none
def addF (found : List ByteArray) (n : ByteArray) : List ByteArray := if (found.any fun s => n.toList == s.toList) then found else found ++ [n]
def putStep (files : List XFile) (rec : List UInt8 → PSt → Option PSt) (line : List UInt8) (st : PSt) : Option PSt :=
  match inclN line with
  | none => if (st.out ++ line).length ≤ 65536 then some ⟨st.out ++ line, st.found, st.many⟩ else none
  | some n => match findF files (lB n) with
    | none => none
    | some own => if rightM n = true ∧ st.many + 1 ≤ 1000 then rec own ⟨st.out, addF st.found (lB n), st.many + 1⟩ else none
/-- Line by line, behind a line that has begun. -/
def lnGo (f : List UInt8 → PSt → Option PSt) : List UInt8 → List UInt8 → PSt → Option PSt
  | [], cur, st => f cur st
  | c :: r, cur, st => if c = 10 then (f (cur ++ [c]) st).bind (lnGo f r []) else lnGo f r (cur ++ [c]) st
def putsD (files : List XFile) : Nat → List UInt8 → PSt → Option PSt
  | 0, _, _ => none
  | d + 1, b, st => lnGo (putStep files (putsD files d)) b [] st
theorem lnGo_mid {f : List UInt8 → PSt → Option PSt} : ∀ (r cur : List UInt8) (st : PSt) (k : Nat), Lib.indexByte r 10 = (k : Int) → lnGo f r cur st = (f (cur ++ r.take (k + 1)) st).bind (lnGo f (r.drop (k + 1)) [])
  | [], _, _, k, h => by simp [Lib.indexByte] at h
  | c :: r, cur, st, k, h => by
    rw [Lib.indexByte] at h
    rw [lnGo]
    split at h
    · rename_i hc
      have hk : k = 0 := by omega
      subst hk
      rw [if_pos (by simpa using hc)]
      simp
    · rename_i hc
      rw [if_neg (by simpa using hc)]
      split at h
      · omega
      · obtain ⟨j, rfl⟩ : ∃ j, k = j + 1 := ⟨k - 1, by have := Lib.indexByte_ge r 10; rename_i h2; rw [beq_iff_eq] at h2; omega⟩
        rw [lnGo_mid r (cur ++ [c]) st j (by omega)]
        simp
theorem lnGo_last {f : List UInt8 → PSt → Option PSt} : ∀ (r cur : List UInt8) (st : PSt), Lib.indexByte r 10 = -1 → lnGo f r cur st = f (cur ++ r) st
  | [], cur, st, _ => by simp [lnGo]
  | c :: r, cur, st, h => by
    rw [Lib.indexByte] at h
    rw [lnGo]
    split at h
    · omega
    · rename_i hc
      rw [if_neg (by simpa using hc)]
      split at h
      · rename_i h2
        rw [lnGo_last r (cur ++ [c]) st (by simpa using h2)]
        simp
      · have := Lib.indexByte_ge r 10
        omega
structure PSt.Ok (st : PSt) : Prop where
  out : st.out.length ≤ 65536
  found : st.found.length ≤ st.many
  many : st.many ≤ 1000
  right : ∀ n ∈ st.found, rightM (bL n) = true
theorem lnGo_ok {f : List UInt8 → PSt → Option PSt} (hf : ∀ l st st', st.Ok → f l st = some st' → st'.Ok) : ∀ (r cur : List UInt8) (st st' : PSt), st.Ok → lnGo f r cur st = some st' → st'.Ok
  | [], cur, st, st', h, e => hf cur st st' h e
  | c :: r, cur, st, st', h, e => by
    rw [lnGo] at e
    split at e
    · obtain ⟨s1, h1, h2⟩ := Option.bind_eq_some_iff.1 e
      exact lnGo_ok hf r [] s1 st' (hf _ _ _ h h1) h2
    · exact lnGo_ok hf r _ st st' h e
theorem putStep_ok {files : List XFile} {rec : List UInt8 → PSt → Option PSt} (hr : ∀ b st st', st.Ok → rec b st = some st' → st'.Ok) (l : List UInt8) (st st' : PSt) (h : st.Ok) (e : putStep files rec l st = some st') : st'.Ok := by
  unfold putStep at e
  split at e
  · split at e
    · cases e
      exact ⟨by assumption, h.found, h.many, h.right⟩
    · cases e
  · split at e
    · cases e
    · split at e
      · rename_i hc
        refine hr _ ⟨st.out, addF st.found (lB _), st.many + 1⟩ _ ⟨h.out, ?_, hc.2, ?_⟩ e
        · have := h.found
          show (addF st.found (lB _)).length ≤ st.many + 1
          unfold addF
          split
          · omega
          · simp; omega
        · intro n hn
          change n ∈ addF st.found (lB _) at hn
          unfold addF at hn
          split at hn
          · exact h.right n hn
          · rcases List.mem_append.1 hn with hn | hn
            · exact h.right n hn
            · rw [List.mem_singleton.1 hn, bL_lB]; exact hc.1
      · cases e
theorem putsD_ok (files : List XFile) : ∀ (d : Nat) (b : List UInt8) (st st' : PSt), st.Ok → putsD files d b st = some st' → st'.Ok
  | 0, _, _, _, _, e => by cases e
  | d + 1, b, st, st', h, e => lnGo_ok (fun l s s' hs he => putStep_ok (putsD_ok files d) l s s' hs he) b [] st st' h e
/-- The rows of a walk of puts over a base store. -/
def rowsP (oo fo : Option Nat) (st : PSt) (R : Store) : Store := cellsOf oo 1 (st.out.map bD) ++ (cellsOf fo 1 (st.found.map sD) ++ R)
structure GrP (oo fo : Option Nat) (st : PSt) (R : Store) : Prop where
  o : GrD oo 1 (st.out.map bD) (cellsOf fo 1 (st.found.map sD) ++ R)
  f : GrD fo 1 (st.found.map sD) R
theorem grd_base {o : Option Nat} {sz : Nat} {xs : List D} {ρ ρ' : Store} (h : GrD o sz xs ρ) (hd : ∀ b, sget b ρ = none → sget b ρ' = none) : GrD o sz xs ρ' := ⟨fun c hc => hd c (h.fresh c hc), h.zero⟩
theorem GrP.base {oo fo : Option Nat} {st : PSt} {ρ ρ' : Store} (h : GrP oo fo st ρ) (hd : ∀ b, sget b ρ = none → sget b ρ' = none) : GrP oo fo st ρ' := ⟨grd_base h.o fun b hb => by
    rw [sget_append] at hb ⊢
    split at hb
    · cases hb
    · exact hd b hb, grd_base h.f hd⟩
theorem GrP.keep {oo fo : Option Nat} {st : PSt} {R : Store} (h : GrP oo fo st R) {b : Nat} {x : AObj} (hb : sget b R = some x) : sget b (rowsP oo fo st R) = some x := h.o.keep (h.f.keep hb)
theorem GrP.sset {oo fo : Option Nat} {st : PSt} {R : Store} (h : GrP oo fo st R) {b : Nat} (x : AObj) (hb : (sget b R).isSome = true) : Ab.sset b x (rowsP oo fo st R) = rowsP oo fo st (Ab.sset b x R) := by
  unfold rowsP
  have h1 : (sget b (cellsOf fo 1 (st.found.map sD) ++ R)).isSome = true := by
    obtain ⟨y, hy⟩ := Option.isSome_iff_exists.1 hb
    rw [h.f.keep hy]; rfl
  rw [h.o.sset h1, h.f.sset hb]
theorem sset_dom {b c : Nat} {x : AObj} {ρ : Store} (h : sget b ρ = none) : sget b (Ab.sset c x ρ) = none := by
  rw [sget_sset]
  split
  · rename_i e; rw [← e, h]; rfl
  · exact h
theorem sset_dom' {b c : Nat} {x : AObj} {ρ : Store} (h : sget b (Ab.sset c x ρ) = none) : sget b ρ = none := by
  rw [sget_sset] at h
  split at h
  · rename_i e
    rw [e]
    cases hs : sget c ρ with
    | none => rfl
    | some y => rw [hs] at h; cases h
  · exact h
/-- The cells of a walk of puts in a round. -/
def pR (bc l r b4 b5 b7 : Nat) (x : AObj) (v5 v7 : D) (R : Store) : Store := (l, x) :: (r, .dblk) :: (b7, .arr 1 [v7]) :: (b5, .arr 1 [v5]) :: (b4, .arr 1 [.ptr bc 5 0 0]) :: R
structure PN (l r b4 b5 b7 : Nat) (R : Store) : Prop where
  lr : l ≠ r
  l4 : l ≠ b4
  l5 : l ≠ b5
  l7 : l ≠ b7
  r4 : r ≠ b4
  r5 : r ≠ b5
  r7 : r ≠ b7
  h45 : b4 ≠ b5
  h47 : b4 ≠ b7
  h57 : b5 ≠ b7
  nl : sget l R = none
  nr : sget r R = none
  n4 : sget b4 R = none
  n5 : sget b5 R = none
  n7 : sget b7 R = none
section
variable {bc l r b4 b5 b7 : Nat} {x y : AObj} {v5 v7 w5 w7 : D} {R R' : Store}
theorem PN.base (h : PN l r b4 b5 b7 R) (hd : ∀ b, sget b R = none → sget b R' = none) : PN l r b4 b5 b7 R' := { h with nl := hd _ h.nl, nr := hd _ h.nr, n4 := hd _ h.n4, n5 := hd _ h.n5, n7 := hd _ h.n7 }
theorem pR_l : sget l (pR bc l r b4 b5 b7 x v5 v7 R) = some x := sget_self ..
theorem pR_r (h : PN l r b4 b5 b7 R) : sget r (pR bc l r b4 b5 b7 x v5 v7 R) = some .dblk := by
  unfold pR
  rw [sget_cons, if_neg (Ne.symm h.lr), sget_self]
theorem pR_7 (h : PN l r b4 b5 b7 R) : sget b7 (pR bc l r b4 b5 b7 x v5 v7 R) = some (.arr 1 [v7]) := by
  unfold pR
  rw [sget_cons, if_neg (Ne.symm h.l7), sget_cons, if_neg (Ne.symm h.r7), sget_self]
theorem pR_5 (h : PN l r b4 b5 b7 R) : sget b5 (pR bc l r b4 b5 b7 x v5 v7 R) = some (.arr 1 [v5]) := by
  unfold pR
  rw [sget_cons, if_neg (Ne.symm h.l5), sget_cons, if_neg (Ne.symm h.r5), sget_cons, if_neg h.h57, sget_self]
theorem pR_4 (h : PN l r b4 b5 b7 R) : sget b4 (pR bc l r b4 b5 b7 x v5 v7 R) = some (.arr 1 [.ptr bc 5 0 0]) := by
  unfold pR
  rw [sget_cons, if_neg (Ne.symm h.l4), sget_cons, if_neg (Ne.symm h.r4), sget_cons, if_neg h.h47, sget_cons, if_neg h.h45, sget_self]
theorem pR_sl : sset l y (pR bc l r b4 b5 b7 x v5 v7 R) = pR bc l r b4 b5 b7 y v5 v7 R := by
  unfold pR
  rw [sset_self]
theorem pR_s5 (h : PN l r b4 b5 b7 R) : sset b5 (.arr 1 [w5]) (pR bc l r b4 b5 b7 x v5 v7 R) = pR bc l r b4 b5 b7 x w5 v7 R := by
  unfold pR
  rw [sset_ne (Ne.symm h.l5), sset_ne (Ne.symm h.r5), sset_ne h.h57, sset_self]
theorem pR_in (h : PN l r b4 b5 b7 R) {b : Nat} {o : AObj} (hb : sget b R = some o) : sget b (pR bc l r b4 b5 b7 x v5 v7 R) = some o := by
  have hn : ∀ {c : Nat}, sget c R = none → b ≠ c := fun {c} hc e => by rw [e, hc] at hb; cases hb
  unfold pR
  rw [sget_cons, if_neg (hn h.nl), sget_cons, if_neg (hn h.nr), sget_cons, if_neg (hn h.n7), sget_cons, if_neg (hn h.n5), sget_cons, if_neg (hn h.n4), hb]
theorem pR_sb (h : PN l r b4 b5 b7 R) {b : Nat} {o : AObj} (hb : (sget b R).isSome = true) : sset b o (pR bc l r b4 b5 b7 x v5 v7 R) = pR bc l r b4 b5 b7 x v5 v7 (sset b o R) := by
  have hn : ∀ {c : Nat}, sget c R = none → b ≠ c := fun {c} hc e => by rw [e, hc] at hb; cases hb
  unfold pR
  rw [sset_ne (hn h.nl), sset_ne (hn h.nr), sset_ne (hn h.n7), sset_ne (hn h.n5), sset_ne (hn h.n4)]
theorem pR_dom {b : Nat} (hd : sget b R = none → sget b R' = none) (h : sget b (pR bc l r b4 b5 b7 x v5 v7 R) = none) : sget b (pR bc l r b4 b5 b7 y w5 w7 R') = none := by
  unfold pR at *
  simp only [sget_cons] at *
  repeat' split at h
  all_goals first | cases h | skip
  simp_all
end
/-- Everything but the cook's own row is as it was. -/
def KeepX (bc : Nat) (R τ : Store) : Prop := ∀ b o, b ≠ bc → sget b R = some o → sget b τ = some o
theorem KeepX.trans_sle {bc : Nat} {R τ σ : Store} (h : KeepX bc R τ) (hs : SLe τ σ) : KeepX bc R σ := fun b o hb hr => hs b o (h b o hb hr)
theorem KeepX.pR {bc l r b4 b5 b7 : Nat} {x : AObj} {v5 v7 : D} {R τ : Store} (hN : PN l r b4 b5 b7 R) (h : KeepX bc (pR bc l r b4 b5 b7 x v5 v7 R) τ) : KeepX bc R τ := fun b o hb hr => h b o hb (pR_in hN hr)
end Go.Ab.S16
set_option linter.unusedSimpArgs false
set_option linter.unusedVariables false
set_option linter.constructorNameAsVariable false
namespace Go.Ab.S16
open Go Go.Proofs Go.RowKit
theorem own_ne {o : Option Nat} {sz : Nat} {xs : List D} {τ : Store} {b : Nat} (h : SLe (cellsOf o sz xs) τ) (hb : sget b τ = none) : o ≠ some b := fun e => by
  subst e
  have := h b (.arr sz xs) (sget_self ..)
  rw [hb] at this; cases this
theorem oget_cons {o : Option Nat} {sz : Nat} {b : Nat} {x : AObj} {σ : Store} (hn : o ≠ some b) : oget sz o ((b, x) :: σ) = oget sz o σ := by
  cases o with
  | none => rfl
  | some c =>
    have : c ≠ b := fun e => hn (by rw [e])
    simp only [oget, sget_cons, if_neg this]
theorem sle_push {τ σ : Store} {b : Nat} {x : AObj} (h : SLe τ σ) (hb : sget b σ = none) : SLe τ ((b, x) :: σ) := fun c o hc => by
  have := h c o hc
  rw [sget_cons, if_neg (fun e => by rw [e, hb] at this; cases this)]
  exact this
theorem bytes_bD (b : List UInt8) : bytesOf ((b.map bD).take b.length) = lB b := by
  rw [List.take_of_length_le (by simp)]
  unfold bytesOf lB
  congr 2
  rw [List.map_map]
  have : ∀ c : UInt8, (byteOf ∘ bD) c = c := fun c => by simp [byteOf, bD]
  rw [List.map_congr_left (fun c _ => this c)]
  simp
theorem all_bD (b : List UInt8) : (b.map bD).all isByte = true := by
  rw [List.all_eq_true]
  intro x hx
  obtain ⟨c, _, rfl⟩ := List.mem_map.1 hx
  simp only [bD, isByte, decide_eq_true_eq]
  have := UInt8.toNat_lt c
  omega
theorem sset_sset (b : Nat) (x y : AObj) : ∀ σ : Store, sset b x (sset b y σ) = sset b x σ
  | [] => rfl
  | (c, o) :: σ => by
    by_cases h : b = c
    · subst h; rw [sset_self, sset_self, sset_self]
    · rw [sset_ne h, sset_ne h, sset_ne h, sset_sset b x y σ]
theorem app_dom {c : Nat} {A B B' : Store} (h : sget c (A ++ B) = none) (hd : sget c B = none → sget c B' = none) : sget c (A ++ B') = none := by
  rw [sget_append] at h ⊢
  split at h
  · cases h
  · exact hd h
theorem rows_dom {oo fo : Option Nat} {st : PSt} {A B : Store} {c : Nat} (h : sget c (rowsP oo fo st A) = none) (hd : sget c A = none → sget c B = none) : sget c (rowsP oo fo st B) = none := app_dom h fun h2 => app_dom h2 hd
theorem oget_app {o : Option Nat} {sz : Nat} {A B : Store} (h : ∀ c, o = some c → sget c A = none) : oget sz o (A ++ B) = oget sz o B := by
  cases o with
  | none => rfl
  | some c => simp only [oget, sget_append_none (h c rfl)]
theorem sdel_app {c : Nat} : ∀ {A B : Store}, sget c A = none → sdel c (A ++ B) = A ++ sdel c B
  | [], _, _ => rfl
  | (k, o) :: A, B, h => by
    rw [sget_cons] at h
    split at h
    · cases h
    · rename_i e
      rw [List.cons_append, sdel_ne e, sdel_app h]; rfl
theorem sdelo_app {o : Option Nat} {A B : Store} (h : ∀ c, o = some c → sget c A = none) : sdelo o (A ++ B) = A ++ sdelo o B := by
  cases o with
  | none => rfl
  | some c => exact sdel_app (h c rfl)
theorem cells_none {o o2 : Option Nat} {sz sb : Nat} {xs ys : List D} {ρ : Store} (h : GrD o2 sb ys (cellsOf o sz xs ++ ρ)) : ∀ c, o = some c → sget c (cellsOf o2 sb ys) = none := fun c hc => by
  subst hc
  cases o2 with
  | none => rfl
  | some k =>
    have hk := h.fresh k rfl
    change sget k ((c, _) :: ρ) = none at hk
    have : c ≠ k := fun e => by rw [e, sget_self] at hk; cases hk
    show sget c [(k, _)] = none
    rw [sget_cons, if_neg this]; rfl
theorem rows_sle {oo fo : Option Nat} {st : PSt} {A B : Store} (hg : GrP oo fo st B) (h : SLe A B) : SLe (rowsP oo fo st A) (rowsP oo fo st B) :=
  SLe.append (SLe.append_left _ _) ((SLe.append (SLe.append_left _ _) (h.trans hg.f.sle)).trans hg.o.sle)
theorem rows_none {oo fo : Option Nat} {st : PSt} {A B : Store} {c : Nat} (hg : GrP oo fo st B) (hb : (sget c B).isSome = true) (ha : sget c A = none) : sget c (rowsP oo fo st A) = none := by
  obtain ⟨x, hx⟩ := Option.isSome_iff_exists.1 hb
  have h1 : ∀ {o : Option Nat} {xs : List D}, (∀ k, o = some k → c ≠ k) → sget c (cellsOf o 1 xs) = none := fun {o xs} h => by
    cases o with
    | none => rfl
    | some k =>
      show sget c [(k, _)] = none
      rw [sget_cons, if_neg (h k rfl)]; rfl
  have h2 := h1 (o := oo) (xs := st.out.map bD) fun k hk e => by
    have := hg.o.fresh k hk
    rw [← e, hg.f.keep hx] at this; cases this
  have h3 := h1 (o := fo) (xs := st.found.map sD) fun k hk e => by
    have := hg.f.fresh k hk
    rw [← e, hx] at this; cases this
  unfold rowsP
  rw [sget_append_none h2, sget_append_none h3, ha]
section
variable (args decl : List ByteArray) (files : List XFile) (bc : Nat)
def ckS (R0 : Store) (st : PSt) (fo : Option Nat) : Store := sset bc (ckR args decl files (.own fo 1 st.found.length) (st.many : Int)) R0
def PutsC (lv : Nat) : Prop := ∀ (oo fo ob : Option Nat) (b : List UInt8) (st : PSt) (R0 : Store), st.Ok → (sget bc R0).isSome = true → GrP oo fo st R0 → GrD ob 1 (b.map bD) (rowsP oo fo st (ckS args decl files bc R0 st fo)) → b.length < 2 ^ 40 →
  ACalls Tryz.prog 137 [.ptr bc 5 0 0, .own oo 1 st.out.length, .own ob 1 b.length, .v (.int .i64 (11 - (lv : Int)))] (cellsOf ob 1 (b.map bD) ++ rowsP oo fo st (ckS args decl files bc R0 st fo)) (fun e σ' => match putsD files lv b st with
    | some s' => ∃ oo' fo', GrP oo' fo' s' R0 ∧ e = .ret (.own oo' 1 s'.out.length) ∧ σ' = rowsP oo' fo' s' (ckS args decl files bc R0 s' fo')
    | none => e = .panic failD ∧ KeepX bc R0 σ')
theorem GrP.toP {oo fo : Option Nat} {st : PSt} {R : Store} {l r b4 b5 b7 : Nat} {x : AObj} {v5 v7 : D} (h : GrP oo fo st R) (ho : ∀ c ∈ [l, r, b4, b5, b7], oo ≠ some c ∧ fo ≠ some c) : GrP oo fo st (pR bc l r b4 b5 b7 x v5 v7 R) := by
  have hne : ∀ {o : Option Nat} {c : Nat}, o = some c → (∀ k ∈ [l, r, b4, b5, b7], o ≠ some k) → c ≠ l ∧ c ≠ r ∧ c ≠ b4 ∧ c ≠ b5 ∧ c ≠ b7 := fun {o c} hc hk => ⟨fun e => hk l (by simp) (by rw [hc, e]), fun e => hk r (by simp) (by rw [hc, e]), fun e => hk b4 (by simp) (by rw [hc, e]), fun e => hk b5 (by simp) (by rw [hc, e]), fun e => hk b7 (by simp) (by rw [hc, e])⟩
  have hp : ∀ {c : Nat}, (c ≠ l ∧ c ≠ r ∧ c ≠ b4 ∧ c ≠ b5 ∧ c ≠ b7) → sget c (pR bc l r b4 b5 b7 x v5 v7 R) = sget c R := fun {c} ⟨h1, h2, h3, h4, h5⟩ => by
    unfold pR
    rw [sget_cons, if_neg h1, sget_cons, if_neg h2, sget_cons, if_neg h5, sget_cons, if_neg h4, sget_cons, if_neg h3]
  refine ⟨⟨fun c hc => ?_, h.o.zero⟩, ⟨fun c hc => ?_, h.f.zero⟩⟩
  · have h1 := h.o.fresh c hc
    rw [sget_append] at h1 ⊢
    split at h1
    · cases h1
    · rw [hp (hne hc fun k hk => (ho k hk).1)]; exact h1
  · rw [hp (hne hc fun k hk => (ho k hk).2)]; exact h.f.fresh c hc
theorem keepX_rows {oo fo : Option Nat} {st : PSt} {R0 : Store} {x : AObj} (h : GrP oo fo st R0) : KeepX bc R0 (rowsP oo fo st (sset bc x R0)) := fun b o hb hr => by
  refine (h.base (ρ' := sset bc x R0) fun b hb => sset_dom hb).keep ?_
  rw [sget_sset, if_neg hb]; exact hr
theorem puts_zero : PutsC args decl files bc 0 := by
  intro oo fo ob b st R0 hst hbc hg hgb hbl
  refine ACalls.of_body Tryz.func137 rfl Tryz.ntmps137 (by simp) fun C hC => ?_
  refine Goes.seq ?_
  refine Goes.region [0, 1, 2, 3] fun K hK => ?_; simp (maxSteps := 4000000) only [go_sem]
  intro b4 hb4 b5 hb5 b7 hb7
  refine hK _ _ ?_; clear hK K
  refine Goes.seq ?_
  refine Goes.region [2, 4, 5, 7, 8] fun K hK => ?_; simp (maxSteps := 4000000) only [go_sem]
  refine ⟨_, Tryz.call81, (need_calls false _).mono ?_⟩
  rintro e σ1 ⟨rfl, rfl⟩
  simp only [go_sem]
  exact Pan.of hC Tryz.func137 ⟨rfl, (keepX_rows bc hg).trans_sle (sle_push (sle_push (sle_push hgb.sle hb4) hb5) hb7)⟩
theorem puts_succ (hfl : files.length < 2 ^ 31) (hfb : ∀ f ∈ files, f.b.length < 2 ^ 40) (d : Nat) (hd : d ≤ 10) (hrec : PutsC args decl files bc d) : PutsC args decl files bc (d + 1) := by
  intro oo fo ob b st R0 hst hbc hg hgb hbl
  refine ACalls.of_body Tryz.func137 rfl Tryz.ntmps137 (by simp) fun C hC => ?_
  have hdp : decide ((11 - ((d + 1 : Nat) : Int)) ≤ 10) = true := decide_eq_true (by omega)
  refine Goes.seq ?_
  refine Goes.region [0, 1, 2, 3] fun K hK => ?_; simp (maxSteps := 4000000) only [go_sem]
  intro b4 hb4 b5 hb5 b7 hb7
  refine hK _ _ ?_; clear hK K
  refine Goes.seq ?_
  refine Goes.region [2, 4, 5, 7, 8] fun K hK => ?_; simp (maxSteps := 4000000) only [go_sem, hdp]
  refine ⟨_, Tryz.call81, (need_calls true _).mono ?_⟩
  rintro e σ1 ⟨rfl, rfl⟩
  simp only [go_sem]
  refine hK _ _ ?_; clear hK K
  refine Goes.seq ?_
  refine Goes.seq ?_
  have hs0 : SLe (cellsOf ob 1 (b.map bD)) (cellsOf ob 1 (b.map bD) ++ rowsP oo fo st (ckS args decl files bc R0 st fo)) := SLe.append_left _ _
  have hob4 : ob ≠ some b4 := own_ne hs0 hb4
  have hob5 : ob ≠ some b5 := own_ne (sle_push hs0 hb4) hb5
  have hob7 : ob ≠ some b7 := own_ne (sle_push (sle_push hs0 hb4) hb5) hb7
  have hob := (oget_cons (sz := 1) (x := .arr 1 [.v (.int .i64 (11 - ((d + 1 : Nat) : Int)))]) hob7).trans ((oget_cons (x := .arr 1 [.own oo 1 st.out.length]) hob5).trans ((oget_cons (x := .arr 1 [.ptr bc 5 0 0]) hob4).trans hgb.oget))
  have hbt := bytes_bD b
  have hba := all_bD b
  have hbn : b.length ≤ (b.map bD).length := by simp
  refine Goes.region [2, 4, 5, 7, 8] fun K hK => ?_; simp (maxSteps := 4000000) only [go_sem, hob, hbt, hba]
  refine ⟨hbn, ?_⟩
  refine ⟨_, Tryz.call163, (splitA_calls b 10 _).mono ?_⟩
  rintro e σ1 ⟨bs, bd, bk, hN, hap, rfl, rfl⟩
  simp only [go_sem]
  refine hK _ _ ?_; clear hK K
  refine Goes.block ?_
  refine Goes.rebase [4, 5, 7, 8, 19] ?_
  simp only [go_sem]
  refine Goes.rangeFuncL hC.toM rfl Tryz.call208 fun l1 r1 C1 LP1 hLP1 hr1 hl1 hC1 => ?_
  have hlr : l1 ≠ r1 := by
    intro e; rw [e, sget_self] at hl1; cases hl1
  rw [sget_cons, if_neg hlr] at hl1
  have happ : ∀ {c : Nat} {A B : Store}, sget c (A ++ B) = none → sget c A = none ∧ sget c B = none := fun {c A B} h => by
    rw [sget_append] at h
    split at h
    · cases h
    · exact ⟨by assumption, h⟩
  have hne : ∀ {b c : Nat} {x : AObj} {τ : Store}, sget b ((c, x) :: τ) = none → b ≠ c ∧ sget b τ = none := fun {b c x τ} h => by
    rw [sget_cons] at h
    split at h
    · cases h
    · rename_i e; exact ⟨e, h⟩
  have hr2 := happ hr1
  have hl2 := happ hl1
  have hgP : GrP oo fo st (ckS args decl files bc R0 st fo) := hg.base fun b hb => sset_dom hb
  have hsX : SLe (ckS args decl files bc R0 st fo) (rowsP oo fo st (ckS args decl files bc R0 st fo)) := fun c o hc => hgP.keep hc
  have hsR : ∀ {c : Nat}, sget c (cellsOf ob 1 (b.map bD) ++ rowsP oo fo st (ckS args decl files bc R0 st fo)) = none → sget c R0 = none ∧ oo ≠ some c ∧ fo ≠ some c := fun {c} h => by
    have h2 := (happ h).2
    refine ⟨sset_dom' (none_of_sle hsX h2), own_ne (SLe.append_left _ _) h2, own_ne (SLe.append_left _ _) (happ h2).2⟩
  have hP : PN l1 r1 b4 b5 b7 R0 := ⟨hlr, (hne (hne (hne hl2.2).2).2).1, (hne (hne hl2.2).2).1, (hne hl2.2).1, (hne (hne (hne hr2.2).2).2).1, (hne (hne hr2.2).2).1, (hne hr2.2).1, Ne.symm (hne hb5).1, Ne.symm (hne (hne hb7).2).1, Ne.symm (hne hb7).1, (hsR (hne (hne (hne hl2.2).2).2).2).1, (hsR (hne (hne (hne hr2.2).2).2).2).1, (hsR hb4).1, (hsR (hne hb5).2).1, (hsR (hne (hne hb7).2).2).1⟩
  have hgPB : GrP oo fo st (pR bc l1 r1 b4 b5 b7 .dblk .any .any R0) := hg.toP bc fun c hc => by
    simp only [List.mem_cons, List.not_mem_nil, or_false] at hc
    rcases hc with rfl | rfl | rfl | rfl | rfl
    · exact (hsR (hne (hne (hne hl2.2).2).2).2).2
    · exact (hsR (hne (hne (hne hr2.2).2).2).2).2
    · exact (hsR hb4).2
    · exact (hsR (hne hb5).2).2
    · exact (hsR (hne (hne hb7).2).2).2
  obtain ⟨RS, hRS⟩ : ∃ RS : Option Nat → Option Nat → PSt → AObj → Store, ∀ oo fo st x, RS oo fo st x = rowsP oo fo st (pR bc l1 r1 b4 b5 b7 x (.own oo 1 st.out.length) (.v (.int .i64 (11 - ((d + 1 : Nat) : Int)))) (ckS args decl files bc R0 st fo)) := ⟨_, fun _ _ _ _ => rfl⟩
  have hround : ∀ (line : List UInt8) (st : PSt) (oo fo : Option Nat), st.Ok → GrP oo fo st (pR bc l1 r1 b4 b5 b7 .dblk .any .any R0) → line.length < 2 ^ 40 → AYields Tryz.prog l1 [.v (.string (lB line))] (RS oo fo st (LP1 .ready none)) (fun e τ' => match putStep files (putsD files d) line st with
      | some s' => e = .ret (.v (.bool true)) ∧ ∃ oo' fo', GrP oo' fo' s' (pR bc l1 r1 b4 b5 b7 .dblk .any .any R0) ∧ τ' = RS oo' fo' s' (LP1 .ready none)
      | none => e = .panic failD ∧ KeepX bc R0 τ' ∧ sget r1 τ' = some .dblk) := by
    intro line st oo fo hst hgr hll
    rw [hRS]
    have hgb : ∀ {x y : AObj} {v5 v7 : D}, GrP oo fo st (pR bc l1 r1 b4 b5 b7 x v5 v7 (sset bc y R0)) := fun {x y v5 v7} => hgr.base fun b hb => pR_dom (fun h => sset_dom h) hb
    have hP1 : ∀ {y : AObj}, PN l1 r1 b4 b5 b7 (sset bc y R0) := fun {y} => hP.base fun b hb => sset_dom hb
    have hbc1 : ∀ {y : AObj}, sget bc (sset bc y R0) = some y := fun {y} => by
      rw [sget_sset, if_pos rfl]
      obtain ⟨z, hz⟩ := Option.isSome_iff_exists.1 hbc
      rw [hz]; rfl
    unfold ckS
    refine AYields.of_bodyL hLP1 Tryz.func137 (hgb.keep pR_l) (by decide) rfl fun C2 hR1 => ?_
    simp only [go_sem, parEnv]
    have hsb : ∀ {y : AObj} {v5 v7 : D} (x x' : AObj), sset l1 x' (rowsP oo fo st (pR bc l1 r1 b4 b5 b7 x v5 v7 (sset bc y R0))) = rowsP oo fo st (pR bc l1 r1 b4 b5 b7 x' v5 v7 (sset bc y R0)) := fun {y v5 v7} x x' => by
      rw [hgb.sset _ (by rw [pR_l]; rfl), pR_sl]
    have g5 : ∀ {x y : AObj} {v5 v7 : D}, sget b5 (rowsP oo fo st (pR bc l1 r1 b4 b5 b7 x v5 v7 (sset bc y R0))) = some (.arr 1 [v5]) := hgb.keep (pR_5 hP1)
    have g4 : ∀ {x y : AObj} {v5 v7 : D}, sget b4 (rowsP oo fo st (pR bc l1 r1 b4 b5 b7 x v5 v7 (sset bc y R0))) = some (.arr 1 [.ptr bc 5 0 0]) := hgb.keep (pR_4 hP1)
    have gB : ∀ {x y : AObj} {v5 v7 : D}, sget bc (rowsP oo fo st (pR bc l1 r1 b4 b5 b7 x v5 v7 (sset bc y R0))) = some y := hgb.keep (pR_in hP1 hbc1)
    have sB : ∀ {x y z : AObj} {v5 v7 : D}, sset bc z (rowsP oo fo st (pR bc l1 r1 b4 b5 b7 x v5 v7 (sset bc y R0))) = rowsP oo fo st (pR bc l1 r1 b4 b5 b7 x v5 v7 (sset bc z R0)) := fun {x y z v5 v7} => by
      rw [hgb.sset _ (by rw [pR_in hP1 hbc1]; rfl), pR_sb hP1 (by rw [hbc1]; rfl), sset_sset]
    have g7 : ∀ {x y : AObj} {v5 v7 : D}, sget b7 (rowsP oo fo st (pR bc l1 r1 b4 b5 b7 x v5 v7 (sset bc y R0))) = some (.arr 1 [v7]) := hgb.keep (pR_7 hP1)
    have ho : ∀ {x y : AObj} {v5 v7 : D}, oget 1 oo (rowsP oo fo st (pR bc l1 r1 b4 b5 b7 x v5 v7 (sset bc y R0))) = some (st.out.map bD) := fun {x y v5 v7} => (hgb (x := x) (y := y) (v5 := v5) (v7 := v7)).o.oget
    have hdl : ∀ {x y : AObj} {v5 v7 : D}, sdelo oo (rowsP oo fo st (pR bc l1 r1 b4 b5 b7 x v5 v7 (sset bc y R0))) = cellsOf fo 1 (st.found.map sD) ++ pR bc l1 r1 b4 b5 b7 x v5 v7 (sset bc y R0) := fun {x y v5 v7} => (hgb (x := x) (y := y) (v5 := v5) (v7 := v7)).o.sdel
    have htk : List.take st.out.length (st.out.map bD) = st.out.map bD := List.take_of_length_le (by simp)
    have hkx : ∀ {x y : AObj} {v5 v7 : D}, KeepX bc R0 (rowsP oo fo st (pR bc l1 r1 b4 b5 b7 x v5 v7 (sset bc y R0))) := fun {x y v5 v7} b o hb hr => hgb.keep (pR_in hP1 (by rw [sget_sset, if_neg hb]; exact hr))
    have hkr : ∀ {x y : AObj} {v5 v7 : D}, sget r1 (rowsP oo fo st (pR bc l1 r1 b4 b5 b7 x v5 v7 (sset bc y R0))) = some .dblk := hgb.keep (pR_r hP1)
    have ht : (trimS (lB line) ⟨#[10]⟩).size < 2 ^ 40 := by
      have : (lB line).size = line.length := lB_size line
      unfold trimS
      split
      · rw [ByteArray.size_extract]; omega
      · omega
    have hpp : Lib.hasPrefix (trimS (lB line) ⟨#[10]⟩).data.toList (⟨#[35, 105, 110, 99, 108, 117, 100, 101, 32]⟩ : ByteArray).data.toList = Lib.hasPrefix (inclT line) incl := rfl
    refine Goes.region [4, 5, 7, 8, 20] fun K hK => ?_; simp (maxSteps := 4000000) only [go_sem]
    refine hK _ _ ?_; clear hK K
    refine Goes.beginRoundL hR1 hLP1 (hgb.keep pR_l) ?_
    simp only [go_sem, hsb]
    refine Goes.block ?_
    refine Goes.seq ?_
    cases hin : Lib.hasPrefix (inclT line) incl
    · refine Goes.region [4, 5, 7, 8, 9] fun K hK => ?_; simp (maxSteps := 4000000) only [go_sem]
      refine ⟨_, Tryz.call51, (trim_calls (lB line) ⟨#[10]⟩ _ (by rw [lB_size]; omega) (by decide)).mono ?_⟩
      rintro e σ1 ⟨rfl, rfl⟩
      simp only [go_sem]
      refine ⟨_, Tryz.call164, (cutPrefix_calls (trimS (lB line) ⟨#[10]⟩) ⟨#[35, 105, 110, 99, 108, 117, 100, 101, 32]⟩ _).mono ?_⟩
      rintro e σ1 ⟨rfl, rfl⟩
      simp only [go_sem, hpp, hin]
      refine hK _ _ ?_; clear hK K
      refine Goes.seq ?_
      refine Goes.seq ?_
      refine Goes.region [4, 5, 7, 8, 9, 10, 11] fun K hK => ?_; simp (maxSteps := 4000000) only [go_sem]
      refine hK _ _ ?_; clear hK K
      refine Goes.condT rfl ?_
      refine Goes.seq ?_
      have hinc : inclN line = none := by unfold inclN; rw [hin]; rfl
      have hdat : (lB line).data.toList = line := rfl
      refine Goes.region [5, 8, 9] fun K hK => ?_; simp (maxSteps := 4000000) only [go_sem, g5, ho, hdl, htk, hdat]
      refine ⟨⟨by simp, fun y hy => plain_bD line y hy, by simp only [List.length_map]; have := hst.out; omega, by simp only [List.length_map]; have := hst.out; omega⟩, fun ob2 hz hf => ?_⟩
      simp only [← List.map_append] at hz ⊢
      have hgr2 : GrP ob2 fo ⟨st.out ++ line, st.found, st.many⟩ (pR bc l1 r1 b4 b5 b7 .dblk .any .any R0) := ⟨⟨fun c hc => app_dom (hf c hc) fun h => pR_dom (fun h => sset_dom' h) h, hz⟩, hgr.f⟩
      have hgb2 : ∀ {x y : AObj} {v5 v7 : D}, GrP ob2 fo ⟨st.out ++ line, st.found, st.many⟩ (pR bc l1 r1 b4 b5 b7 x v5 v7 (sset bc y R0)) := fun {x y v5 v7} => hgr2.base fun b hb => pR_dom (fun h => sset_dom h) hb
      have g5b : ∀ {x y : AObj} {v5 v7 : D}, sget b5 (cellsOf ob2 1 ((st.out ++ line).map bD) ++ (cellsOf fo 1 (st.found.map sD) ++ pR bc l1 r1 b4 b5 b7 x v5 v7 (sset bc y R0))) = some (.arr 1 [v5]) := hgb2.keep (pR_5 hP1)
      have s5b : ∀ {x y : AObj} {v5 v7 w : D}, sset b5 (.arr 1 [w]) (cellsOf ob2 1 ((st.out ++ line).map bD) ++ (cellsOf fo 1 (st.found.map sD) ++ pR bc l1 r1 b4 b5 b7 x v5 v7 (sset bc y R0))) = rowsP ob2 fo ⟨st.out ++ line, st.found, st.many⟩ (pR bc l1 r1 b4 b5 b7 x w v7 (sset bc y R0)) := fun {x y v5 v7 w} => by
        have := hgb2.sset (R := pR bc l1 r1 b4 b5 b7 x v5 v7 (sset bc y R0)) (b := b5) (.arr 1 [w]) (by rw [pR_5 hP1]; rfl)
        rw [pR_s5 hP1] at this
        exact this
      have hlm : ((st.out ++ line).map bD).length = (st.out ++ line).length := List.length_map ..
      simp only [go_sem, g5b, s5b, hlm]
      refine hK _ _ ?_; clear hK K
      have g5c : ∀ {x y : AObj} {v5 v7 : D}, sget b5 (rowsP ob2 fo ⟨st.out ++ line, st.found, st.many⟩ (pR bc l1 r1 b4 b5 b7 x v5 v7 (sset bc y R0))) = some (.arr 1 [v5]) := hgb2.keep (pR_5 hP1)
      refine Goes.seq ?_
      by_cases hle : (st.out ++ line).length ≤ 65536
      · have hdc : decide (((st.out ++ line).length : Int) ≤ 65536) = true := decide_eq_true (by omega)
        refine Goes.region [5, 8] fun K hK => ?_; simp (maxSteps := 4000000) only [go_sem, g5c, hdc]
        refine ⟨_, Tryz.call81, (need_calls true _).mono ?_⟩
        rintro e σ1 ⟨rfl, rfl⟩
        simp only [go_sem]
        refine hK _ _ ?_; clear hK K
        refine Goes.exit rfl ?_
        refine Goes.roundDoneL hR1 hLP1 (hgb2.keep pR_l) ?_
        have hps : putStep files (putsD files d) line st = some ⟨st.out ++ line, st.found, st.many⟩ := by unfold putStep; rw [hinc]; exact if_pos hle
        rw [hps]
        refine ⟨rfl, ob2, fo, hgr2, ?_⟩
        rw [hgb2.sset _ (by rw [pR_l]; rfl), pR_sl, hRS]
        rfl
      · have hdc : decide (((st.out ++ line).length : Int) ≤ 65536) = false := decide_eq_false (by omega)
        refine Goes.region [5, 8] fun K hK => ?_; simp (maxSteps := 4000000) only [go_sem, g5c, hdc]
        refine ⟨_, Tryz.call81, (need_calls false _).mono ?_⟩
        rintro e σ1 ⟨rfl, rfl⟩
        simp only [go_sem]
        have hps : putStep files (putsD files d) line st = none := by unfold putStep; rw [hinc]; exact if_neg hle
        refine Pan.ofRound hR1 ?_
        rw [hps]
        exact ⟨rfl, fun b o hb hr => hgb2.keep (pR_in hP1 (by rw [sget_sset, if_neg hb]; exact hr)), hgb2.keep (pR_r hP1)⟩
    · have hname : (⟨(Lib.trimPrefix (trimS (lB line) ⟨#[10]⟩).data.toList [35, 105, 110, 99, 108, 117, 100, 101, 32]).toArray⟩ : ByteArray) = lB ((inclT line).drop 9) := by
        have : Lib.trimPrefix (inclT line) incl = (inclT line).drop 9 := by unfold Lib.trimPrefix; rw [if_pos hin]; rfl
        exact congrArg lB this
      have hinc : inclN line = some ((inclT line).drop 9) := by unfold inclN; rw [hin]; rfl
      obtain ⟨n, hn⟩ : ∃ n, (inclT line).drop 9 = n := ⟨_, rfl⟩
      rw [hn] at hname hinc
      have hnl : (lB n).size < 2 ^ 40 := by
        rw [lB_size, ← hn, List.length_drop]
        have : (inclT line).length = (trimS (lB line) ⟨#[10]⟩).size := by unfold inclT bL; simp
        omega
      have hwm : IntKind.i64.wrap ((st.many : Int) + 1) = ((st.many + 1 : Nat) : Int) := wrap_succ _ (by have := hst.many; omega)
      have hbn' : bL (lB n) = n := rfl
      have key : findF files (lB n) = none ∨ (∃ own, findF files (lB n) = some own ∧ rightM n = false) ∨ (∃ own, findF files (lB n) = some own ∧ rightM n = true ∧ ¬ st.many + 1 ≤ 1000) ∨ (∃ own, findF files (lB n) = some own ∧ rightM n = true ∧ st.many + 1 ≤ 1000) := by
        cases hf : findF files (lB n) with
        | none => exact .inl rfl
        | some own =>
          cases hr : rightM n with
          | false => exact .inr (.inl ⟨own, rfl, rfl⟩)
          | true =>
            by_cases hm : st.many + 1 ≤ 1000
            · exact .inr (.inr (.inr ⟨own, rfl, rfl, hm⟩))
            · exact .inr (.inr (.inl ⟨own, rfl, rfl, hm⟩))
      have hfind := fun σ => findO_calls files (lB n) σ hfl hfb
      refine Goes.region [4, 5, 7, 8, 9] fun K hK => ?_; simp (maxSteps := 4000000) only [go_sem]
      refine ⟨_, Tryz.call51, (trim_calls (lB line) ⟨#[10]⟩ _ (by rw [lB_size]; omega) (by decide)).mono ?_⟩
      rintro e σ1 ⟨rfl, rfl⟩
      simp only [go_sem]
      refine ⟨_, Tryz.call164, (cutPrefix_calls (trimS (lB line) ⟨#[10]⟩) ⟨#[35, 105, 110, 99, 108, 117, 100, 101, 32]⟩ _).mono ?_⟩
      rintro e σ1 ⟨rfl, rfl⟩
      simp only [go_sem, hpp, hin, hname]
      refine hK _ _ ?_; clear hK K
      refine Goes.seq ?_
      refine Goes.seq ?_
      refine Goes.region [4, 5, 7, 8, 9, 10, 11] fun K hK => ?_; simp (maxSteps := 4000000) only [go_sem]
      refine hK _ _ ?_; clear hK K
      refine Goes.condF rfl ?_
      refine Goes.skip ?_
      refine Goes.seq ?_
      rcases key with hf | ⟨own, hf, hr⟩ | ⟨own, hf, hr, hm⟩ | ⟨own, hf, hr, hm⟩
      · rw [hf] at hfind
        refine Goes.region [4, 5, 7, 8, 10] fun K hK => ?_; simp (maxSteps := 4000000) only [go_sem, g4, gB, ckR]
        refine ⟨_, Tryz.call27, (hfind _).mono ?_⟩
        rintro e σ1 ⟨rfl, rfl⟩
        simp only [go_sem]
        refine hK _ _ ?_; clear hK K
        refine Goes.seq ?_
        refine Goes.region [4, 5, 7, 8, 10, 12, 13] fun K hK => ?_; simp (maxSteps := 4000000) only [go_sem, g4, gB, ckR, hwm, sB]
        refine hK _ _ ?_; clear hK K
        refine Goes.seq ?_
        refine Goes.region [4, 5, 7, 8, 10, 12, 13] fun K hK => ?_; simp (maxSteps := 4000000) only [go_sem]
        refine ⟨_, Tryz.call81, (need_calls false _).mono ?_⟩
        rintro e σ1 ⟨rfl, rfl⟩
        simp only [go_sem]
        have hps : putStep files (putsD files d) line st = none := by unfold putStep; rw [hinc]; simp only [hf]
        refine Pan.ofRound hR1 ?_
        rw [hps]
        exact ⟨rfl, hkx, hkr⟩
      · rw [hf] at hfind
        refine Goes.region [4, 5, 7, 8, 10] fun K hK => ?_; simp (maxSteps := 4000000) only [go_sem, g4, gB, ckR]
        refine ⟨_, Tryz.call27, (hfind _).mono ?_⟩
        rintro e σ1 ⟨o3, hg3, rfl, rfl⟩
        simp only [go_sem]
        refine hK _ _ ?_; clear hK K
        have hg4 : ∀ {x y : AObj} {v5 v7 : D}, GrD o3 1 (own.map bD) (rowsP oo fo st (pR bc l1 r1 b4 b5 b7 x v5 v7 (sset bc y R0))) := fun {x y v5 v7} => grd_base hg3 fun b hb => rows_dom hb fun h => pR_dom (fun h => sset_dom (sset_dom' h)) h
        have g4c : ∀ {x y : AObj} {v5 v7 : D}, sget b4 (cellsOf o3 1 (own.map bD) ++ rowsP oo fo st (pR bc l1 r1 b4 b5 b7 x v5 v7 (sset bc y R0))) = some (.arr 1 [.ptr bc 5 0 0]) := hg4.keep g4
        have gBc : ∀ {x y : AObj} {v5 v7 : D}, sget bc (cellsOf o3 1 (own.map bD) ++ rowsP oo fo st (pR bc l1 r1 b4 b5 b7 x v5 v7 (sset bc y R0))) = some y := hg4.keep gB
        have sBc : ∀ {x y z : AObj} {v5 v7 : D}, sset bc z (cellsOf o3 1 (own.map bD) ++ rowsP oo fo st (pR bc l1 r1 b4 b5 b7 x v5 v7 (sset bc y R0))) = cellsOf o3 1 (own.map bD) ++ rowsP oo fo st (pR bc l1 r1 b4 b5 b7 x v5 v7 (sset bc z R0)) := fun {x y z v5 v7} => by
          rw [hg4.sset (by rw [gB]; rfl), sB]
        refine Goes.seq ?_
        refine Goes.region [4, 5, 7, 8, 10, 12, 13] fun K hK => ?_; simp (maxSteps := 4000000) only [go_sem, g4c, gBc, ckR, hwm, sBc]
        refine hK _ _ ?_; clear hK K
        refine Goes.seq ?_
        refine Goes.region [4, 5, 7, 8, 10, 12, 13] fun K hK => ?_; simp (maxSteps := 4000000) only [go_sem, hr]
        refine ⟨_, Tryz.call113, (right_calls (lB n) hnl _).mono ?_⟩
        rintro e σ1 ⟨rfl, rfl⟩
        simp only [go_sem, hbn', hr]
        refine ⟨_, Tryz.call81, (need_calls false _).mono ?_⟩
        rintro e σ1 ⟨rfl, rfl⟩
        simp only [go_sem]
        have hps : putStep files (putsD files d) line st = none := by unfold putStep; rw [hinc]; simp only [hf]; exact if_neg (fun h => by rw [hr] at h; cases h.1)
        refine Pan.ofRound hR1 ?_
        rw [hps]
        exact ⟨rfl, hkx.trans_sle hg4.sle, hg4.keep hkr⟩
      · rw [hf] at hfind
        refine Goes.region [4, 5, 7, 8, 10] fun K hK => ?_; simp (maxSteps := 4000000) only [go_sem, g4, gB, ckR]
        refine ⟨_, Tryz.call27, (hfind _).mono ?_⟩
        rintro e σ1 ⟨o3, hg3, rfl, rfl⟩
        simp only [go_sem]
        refine hK _ _ ?_; clear hK K
        have hg4 : ∀ {x y : AObj} {v5 v7 : D}, GrD o3 1 (own.map bD) (rowsP oo fo st (pR bc l1 r1 b4 b5 b7 x v5 v7 (sset bc y R0))) := fun {x y v5 v7} => grd_base hg3 fun b hb => rows_dom hb fun h => pR_dom (fun h => sset_dom (sset_dom' h)) h
        have g4c : ∀ {x y : AObj} {v5 v7 : D}, sget b4 (cellsOf o3 1 (own.map bD) ++ rowsP oo fo st (pR bc l1 r1 b4 b5 b7 x v5 v7 (sset bc y R0))) = some (.arr 1 [.ptr bc 5 0 0]) := hg4.keep g4
        have gBc : ∀ {x y : AObj} {v5 v7 : D}, sget bc (cellsOf o3 1 (own.map bD) ++ rowsP oo fo st (pR bc l1 r1 b4 b5 b7 x v5 v7 (sset bc y R0))) = some y := hg4.keep gB
        have sBc : ∀ {x y z : AObj} {v5 v7 : D}, sset bc z (cellsOf o3 1 (own.map bD) ++ rowsP oo fo st (pR bc l1 r1 b4 b5 b7 x v5 v7 (sset bc y R0))) = cellsOf o3 1 (own.map bD) ++ rowsP oo fo st (pR bc l1 r1 b4 b5 b7 x v5 v7 (sset bc z R0)) := fun {x y z v5 v7} => by
          rw [hg4.sset (by rw [gB]; rfl), sB]
        refine Goes.seq ?_
        refine Goes.region [4, 5, 7, 8, 10, 12, 13] fun K hK => ?_; simp (maxSteps := 4000000) only [go_sem, g4c, gBc, ckR, hwm, sBc]
        refine hK _ _ ?_; clear hK K
        refine Goes.seq ?_
        have hdm : decide (((st.many + 1 : Nat) : Int) ≤ 1000) = false := decide_eq_false (by omega)
        refine Goes.region [4, 5, 7, 8, 10, 12, 13] fun K hK => ?_; simp (maxSteps := 4000000) only [go_sem, hr]
        refine ⟨_, Tryz.call113, (right_calls (lB n) hnl _).mono ?_⟩
        rintro e σ1 ⟨rfl, rfl⟩
        simp only [go_sem, hbn', hr, g4c, gBc, hdm]
        refine ⟨_, Tryz.call81, (need_calls false _).mono ?_⟩
        rintro e σ1 ⟨rfl, rfl⟩
        simp only [go_sem]
        have hps : putStep files (putsD files d) line st = none := by unfold putStep; rw [hinc]; simp only [hf]; exact if_neg (fun h => hm h.2)
        refine Pan.ofRound hR1 ?_
        rw [hps]
        exact ⟨rfl, hkx.trans_sle hg4.sle, hg4.keep hkr⟩
      · rw [hf] at hfind
        refine Goes.region [4, 5, 7, 8, 10] fun K hK => ?_; simp (maxSteps := 4000000) only [go_sem, g4, gB, ckR]
        refine ⟨_, Tryz.call27, (hfind _).mono ?_⟩
        rintro e σ1 ⟨o3, hg3, rfl, rfl⟩
        simp only [go_sem]
        refine hK _ _ ?_; clear hK K
        have hg4 : ∀ {x y : AObj} {v5 v7 : D}, GrD o3 1 (own.map bD) (rowsP oo fo st (pR bc l1 r1 b4 b5 b7 x v5 v7 (sset bc y R0))) := fun {x y v5 v7} => grd_base hg3 fun b hb => rows_dom hb fun h => pR_dom (fun h => sset_dom (sset_dom' h)) h
        have g4c : ∀ {x y : AObj} {v5 v7 : D}, sget b4 (cellsOf o3 1 (own.map bD) ++ rowsP oo fo st (pR bc l1 r1 b4 b5 b7 x v5 v7 (sset bc y R0))) = some (.arr 1 [.ptr bc 5 0 0]) := hg4.keep g4
        have gBc : ∀ {x y : AObj} {v5 v7 : D}, sget bc (cellsOf o3 1 (own.map bD) ++ rowsP oo fo st (pR bc l1 r1 b4 b5 b7 x v5 v7 (sset bc y R0))) = some y := hg4.keep gB
        have sBc : ∀ {x y z : AObj} {v5 v7 : D}, sset bc z (cellsOf o3 1 (own.map bD) ++ rowsP oo fo st (pR bc l1 r1 b4 b5 b7 x v5 v7 (sset bc y R0))) = cellsOf o3 1 (own.map bD) ++ rowsP oo fo st (pR bc l1 r1 b4 b5 b7 x v5 v7 (sset bc z R0)) := fun {x y z v5 v7} => by
          rw [hg4.sset (by rw [gB]; rfl), sB]
        refine Goes.seq ?_
        refine Goes.region [4, 5, 7, 8, 10, 12, 13] fun K hK => ?_; simp (maxSteps := 4000000) only [go_sem, g4c, gBc, ckR, hwm, sBc]
        refine hK _ _ ?_; clear hK K
        refine Goes.seq ?_
        have hdm : decide (((st.many + 1 : Nat) : Int) ≤ 1000) = true := decide_eq_true (by omega)
        refine Goes.region [4, 5, 7, 8, 10, 12, 13] fun K hK => ?_; simp (maxSteps := 4000000) only [go_sem, hr]
        refine ⟨_, Tryz.call113, (right_calls (lB n) hnl _).mono ?_⟩
        rintro e σ1 ⟨rfl, rfl⟩
        simp only [go_sem, hbn', hr, g4c, gBc, hdm]
        refine ⟨_, Tryz.call81, (need_calls true _).mono ?_⟩
        rintro e σ1 ⟨rfl, rfl⟩
        simp only [go_sem]
        refine hK _ _ ?_; clear hK K
        refine Goes.seq ?_
        refine Goes.seq ?_
        refine Goes.region [4, 5, 7, 8, 10, 12] fun K hK => ?_; simp (maxSteps := 4000000) only [go_sem, g4c, gBc]
        have e1 : ∀ c, fo = some c → sget c (cellsOf o3 1 (own.map bD)) = none := fun c hc => by
          subst hc
          have hfr : ∀ k, o3 = some k → c ≠ k := fun k hk e => by
            subst hk
            have := (hg4 (x := LP1 .busy none) (y := .dblk) (v5 := .any) (v7 := .any)).fresh k rfl
            rw [← e] at this
            have h2 := (hgb (x := LP1 .busy none) (y := .dblk) (v5 := .any) (v7 := .any)).o.keep (sget_self c (.arr 1 (st.found.map sD)) (pR bc l1 r1 b4 b5 b7 (LP1 .busy none) .any .any (sset bc .dblk R0)))
            exact absurd (this.symm.trans h2) (by simp)
          cases o3 with
          | none => rfl
          | some k =>
            show sget c [(k, _)] = none
            rw [sget_cons, if_neg (hfr k rfl)]; rfl
        have hof : ∀ {x y : AObj} {v5 v7 : D}, oget 1 fo (cellsOf o3 1 (own.map bD) ++ rowsP oo fo st (pR bc l1 r1 b4 b5 b7 x v5 v7 (sset bc y R0))) = some (st.found.map sD) := fun {x y v5 v7} => by
          rw [oget_app e1]
          exact grd_oget2 hgb.f hgb.o
        have hdf : ∀ {x y : AObj} {v5 v7 : D}, sdelo fo (cellsOf o3 1 (own.map bD) ++ rowsP oo fo st (pR bc l1 r1 b4 b5 b7 x v5 v7 (sset bc y R0))) = cellsOf o3 1 (own.map bD) ++ (cellsOf oo 1 (st.out.map bD) ++ pR bc l1 r1 b4 b5 b7 x v5 v7 (sset bc y R0)) := fun {x y v5 v7} => by
          rw [sdelo_app e1]
          exact congrArg _ (grd_sdelo2 hgb.f hgb.o)
        have htf : List.take st.found.length (st.found.map sD) = st.found.map sD := List.take_of_length_le (by simp)
        have hrbc : r1 ≠ bc := fun e => by
          have := hP.nr
          rw [e] at this
          rw [this] at hbc; cases hbc
        refine ⟨_, Tryz.call50, (contains_strO st.found (lB n) _ hof rfl (by have := hst.found; have := hst.many; omega)).mono ?_⟩
        rintro e σ1 ⟨rfl, rfl⟩
        simp only [go_sem]
        refine hK _ _ ?_; clear hK K
        refine Goes.cond rfl (fun h71 => ?_) (fun h71 => ?_)
        · have hnin : (st.found.any fun s => (lB n).toList == s.toList) = false := by simpa using h71
          refine Goes.draw [4, 5, 7, 8, 10, 12] [78] [bc, b4] [10] [(0, true), (1, true), (2, true), (3, true), (4, true), (5, true), (6, true), (7, false), (8, true), (9, true), (10, false)] (by kernel_rfl) (by decide) (by kernel_rfl) fun K hK => ?_; simp (maxSteps := 4000000) only [go_sem, g4c, gBc, hof, hdf, htf]
          refine ⟨by decide, ⟨by simp, fun y hy => by rw [hy]; exact ⟨rfl, rfl⟩, by rw [List.length_map]; have := hst.found; have := hst.many; omega, by rw [List.length_map]; have := hst.found; have := hst.many; omega⟩, fun ob3 hz hf3 => ?_⟩
          have hmf : st.found.map sD ++ [D.v (Value.string (lB n))] = (st.found ++ [lB n]).map sD := by rw [List.map_append]; rfl
          simp only [hmf] at hz ⊢
          have hgX : ∀ {x y : AObj} {v5 v7 : D}, GrD ob3 1 ((st.found ++ [lB n]).map sD) (cellsOf o3 1 (own.map bD) ++ (cellsOf oo 1 (st.out.map bD) ++ pR bc l1 r1 b4 b5 b7 x v5 v7 (sset bc y R0))) := fun {x y v5 v7} => ⟨fun c hc => app_dom (hf3 c hc) fun h => app_dom h fun h => pR_dom (fun h => sset_dom (sset_dom' h)) h, hz⟩
          have hgoo : ∀ {x y : AObj} {v5 v7 : D}, GrD oo 1 (st.out.map bD) (pR bc l1 r1 b4 b5 b7 x v5 v7 (sset bc y R0)) := fun {x y v5 v7} => (grd_dropO (hgb (x := x) (y := y) (v5 := v5) (v7 := v7)).o hgb.f).1
          have hgo3 : ∀ {x y : AObj} {v5 v7 : D}, GrD o3 1 (own.map bD) (cellsOf oo 1 (st.out.map bD) ++ pR bc l1 r1 b4 b5 b7 x v5 v7 (sset bc y R0)) := fun {x y v5 v7} => grd_base (hg4 (x := x) (y := y) (v5 := v5) (v7 := v7)) fun b hb => app_dom (show sget b (cellsOf oo 1 (st.out.map bD) ++ (cellsOf fo 1 (st.found.map sD) ++ _)) = none from hb) fun h => (happ h).2
          have gBx : ∀ {x y : AObj} {v5 v7 : D}, sget bc (cellsOf ob3 1 ((st.found ++ [lB n]).map sD) ++ (cellsOf o3 1 (own.map bD) ++ (cellsOf oo 1 (st.out.map bD) ++ pR bc l1 r1 b4 b5 b7 x v5 v7 (sset bc y R0)))) = some y := fun {x y v5 v7} => hgX.keep (hgo3.keep (hgoo.keep (pR_in hP1 hbc1)))
          have g4x : ∀ {x y : AObj} {v5 v7 : D}, sget b4 (cellsOf ob3 1 ((st.found ++ [lB n]).map sD) ++ (cellsOf o3 1 (own.map bD) ++ (cellsOf oo 1 (st.out.map bD) ++ pR bc l1 r1 b4 b5 b7 x v5 v7 (sset bc y R0)))) = some (.arr 1 [.ptr bc 5 0 0]) := fun {x y v5 v7} => hgX.keep (hgo3.keep (hgoo.keep (pR_4 hP1)))
          have sBx : ∀ {x y z : AObj} {v5 v7 : D}, sset bc z (cellsOf ob3 1 ((st.found ++ [lB n]).map sD) ++ (cellsOf o3 1 (own.map bD) ++ (cellsOf oo 1 (st.out.map bD) ++ pR bc l1 r1 b4 b5 b7 x v5 v7 (sset bc y R0)))) = cellsOf ob3 1 ((st.found ++ [lB n]).map sD) ++ (cellsOf o3 1 (own.map bD) ++ (cellsOf oo 1 (st.out.map bD) ++ pR bc l1 r1 b4 b5 b7 x v5 v7 (sset bc z R0))) := fun {x y z v5 v7} => by
            rw [hgX.sset (by rw [hgo3.keep (hgoo.keep (pR_in hP1 hbc1))]; rfl), hgo3.sset (by rw [hgoo.keep (pR_in hP1 hbc1)]; rfl), hgoo.sset (by rw [pR_in hP1 hbc1]; rfl), pR_sb hP1 (by rw [hbc1]; rfl), sset_sset]
          refine ⟨?_, ?_⟩
          · rintro b (rfl | rfl)
            · rw [gBx, gBc]
            · rw [g4x, g4c]
          have hlf : ((st.found ++ [lB n]).map sD).length = (st.found ++ [lB n]).length := List.length_map ..
          simp only [go_sem, gBx, sBx, g4x, hlf]
          refine hK _ _ ?_; clear hK K
          have hsw1 : ∀ {x y : AObj} {v5 v7 : D}, _ := fun {x y v5 v7} => (hgX (x := x) (y := y) (v5 := v5) (v7 := v7)).swap hgo3
          have hsw2 : ∀ {x y : AObj} {v5 v7 : D}, _ := fun {x y v5 v7} => (hsw1 (x := x) (y := y) (v5 := v5) (v7 := v7)).2.1.swap hgoo
          have hgrX : GrP oo ob3 ⟨st.out, st.found ++ [lB n], st.many + 1⟩ (pR bc l1 r1 b4 b5 b7 .dblk .any .any R0) := GrP.base ⟨(hsw2 (x := .dblk) (y := .dblk) (v5 := .any) (v7 := .any)).1, hsw2.2.1⟩ fun b hb => pR_dom (fun h => sset_dom' h) hb
          have hg4e : ∀ {x y : AObj} {v5 v7 : D}, GrD o3 1 (own.map bD) (rowsP oo ob3 ⟨st.out, st.found ++ [lB n], st.many + 1⟩ (pR bc l1 r1 b4 b5 b7 x v5 v7 (sset bc y R0))) := fun {x y v5 v7} => grd_base (hsw1 (x := x) (y := y) (v5 := v5) (v7 := v7)).1 fun b hb => none_of_sle hsw2.2.2 hb
          refine Goes.le (ELe.refl _) ((SLe.append (SLe.append_left _ _) (hsw2.2.2.trans hsw1.1.sle)).trans hsw1.2.2) ?_
          have hst3 : PSt.Ok ⟨st.out, st.found ++ [lB n], st.many + 1⟩ := ⟨hst.out, (by have := hst.found; show (st.found ++ [lB n]).length ≤ st.many + 1; simp; omega), hm, (fun m hm => by
            rcases List.mem_append.1 hm with hm | hm
            · exact hst.right m hm
            · rw [List.mem_singleton.1 hm]; exact hr)⟩
          have hw2 : IntKind.i64.wrap (11 - ((d + 1 : Nat) : Int) + 1) = 11 - (d : Int) := by rw [wrap_in _ (by omega) (by omega)]; omega
          have hon : (own.map bD).length = own.length := List.length_map ..
          have hol : own.length < 2 ^ 40 := by
            unfold findF at hf
            cases hff : files.find? (fun f => f.name.toList == (lB n).toList) with
            | none => rw [hff] at hf; cases hf
            | some f => rw [hff] at hf; cases hf; exact hfb f (List.mem_of_find?_eq_some hff)
          have hckS : ∀ (s' : PSt) (fo' : Option Nat), ckS args decl files bc (pR bc l1 r1 b4 b5 b7 (LP1 .busy none) (.own oo 1 st.out.length) (.v (.int .i64 (11 - ((d + 1 : Nat) : Int)))) R0) s' fo' = pR bc l1 r1 b4 b5 b7 (LP1 .busy none) (.own oo 1 st.out.length) (.v (.int .i64 (11 - ((d + 1 : Nat) : Int)))) (ckS args decl files bc R0 s' fo') := fun s' fo' => pR_sb hP hbc
          have hgr3 : GrP oo ob3 ⟨st.out, st.found ++ [lB n], st.many + 1⟩ (pR bc l1 r1 b4 b5 b7 .dblk .any .any R0) := hgrX
          have hcall := hrec oo ob3 o3 own ⟨st.out, st.found ++ [lB n], st.many + 1⟩ (pR bc l1 r1 b4 b5 b7 (LP1 .busy none) (.own oo 1 st.out.length) (.v (.int .i64 (11 - ((d + 1 : Nat) : Int)))) R0) hst3 (by
            obtain ⟨z, hz⟩ := Option.isSome_iff_exists.1 hbc
            rw [pR_in hP hz]; rfl) (hgr3.base fun b hb => pR_dom id hb) (by rw [hckS]; exact hg4e) hol
          simp only [hckS] at hcall
          have hps : putStep files (putsD files d) line st = putsD files d own ⟨st.out, st.found ++ [lB n], st.many + 1⟩ := by
            unfold putStep
            rw [hinc]
            simp only [hf]
            rw [if_pos ⟨hr, hm⟩, show addF st.found (lB n) = st.found ++ [lB n] by unfold addF; rw [hnin]; rfl]
          have g4d : ∀ {x y : AObj} {v5 v7 : D}, sget b4 (cellsOf o3 1 (own.map bD) ++ rowsP oo ob3 ⟨st.out, st.found ++ [lB n], st.many + 1⟩ (pR bc l1 r1 b4 b5 b7 x v5 v7 (sset bc y R0))) = some (.arr 1 [.ptr bc 5 0 0]) := fun {x y v5 v7} => (hg4e (x := x) (y := y) (v5 := v5) (v7 := v7)).keep ((hgr3.base fun b hb => pR_dom (fun h => sset_dom h) hb).keep (pR_4 hP1))
          have g5d : ∀ {x y : AObj} {v5 v7 : D}, sget b5 (cellsOf o3 1 (own.map bD) ++ rowsP oo ob3 ⟨st.out, st.found ++ [lB n], st.many + 1⟩ (pR bc l1 r1 b4 b5 b7 x v5 v7 (sset bc y R0))) = some (.arr 1 [v5]) := fun {x y v5 v7} => (hg4e (x := x) (y := y) (v5 := v5) (v7 := v7)).keep ((hgr3.base fun b hb => pR_dom (fun h => sset_dom h) hb).keep (pR_5 hP1))
          have g7d : ∀ {x y : AObj} {v5 v7 : D}, sget b7 (cellsOf o3 1 (own.map bD) ++ rowsP oo ob3 ⟨st.out, st.found ++ [lB n], st.many + 1⟩ (pR bc l1 r1 b4 b5 b7 x v5 v7 (sset bc y R0))) = some (.arr 1 [v7]) := fun {x y v5 v7} => (hg4e (x := x) (y := y) (v5 := v5) (v7 := v7)).keep ((hgr3.base fun b hb => pR_dom (fun h => sset_dom h) hb).keep (pR_7 hP1))
          change Goes C2 _ _ (cellsOf o3 1 (own.map bD) ++ rowsP oo ob3 ⟨st.out, st.found ++ [lB n], st.many + 1⟩ (pR bc l1 r1 b4 b5 b7 (LP1 .busy none) (.own oo 1 st.out.length) (.v (.int .i64 (11 - ((d + 1 : Nat) : Int)))) (ckS args decl files bc R0 ⟨st.out, st.found ++ [lB n], st.many + 1⟩ ob3)))
          unfold ckS at hcall ⊢
          rcases hq : putsD files d own ⟨st.out, st.found ++ [lB n], st.many + 1⟩ with _ | s'
          · rw [hq] at hcall hps
            refine Goes.region [4, 5, 7, 8, 12] fun K hK => ?_; simp (maxSteps := 4000000) only [go_sem, g4d, g5d, g7d, hw2, hon]
            refine ⟨_, Tryz.call137, hcall.mono ?_⟩
            rintro e σ1 ⟨rfl, hk⟩
            simp only [go_sem]
            refine Pan.ofRound hR1 ?_
            rw [hps]
            exact ⟨rfl, hk.pR hP, hk _ _ hrbc (pR_r hP)⟩
          · rw [hq] at hcall hps
            refine Goes.region [4, 5, 7, 8, 12] fun K hK => ?_; simp (maxSteps := 4000000) only [go_sem, g4d, g5d, g7d, hw2, hon]
            refine ⟨_, Tryz.call137, hcall.mono ?_⟩
            rintro e σ1 ⟨oo', fo', hgr5, rfl, rfl⟩
            simp only [go_sem]
            have hgr6 : ∀ {x y : AObj} {v5 v7 : D}, GrP oo' fo' s' (pR bc l1 r1 b4 b5 b7 x v5 v7 (sset bc y R0)) := fun {x y v5 v7} => hgr5.base fun b hb => pR_dom (fun h => sset_dom h) hb
            have g5e : ∀ {x y : AObj} {v5 v7 : D}, sget b5 (rowsP oo' fo' s' (pR bc l1 r1 b4 b5 b7 x v5 v7 (sset bc y R0))) = some (.arr 1 [v5]) := hgr6.keep (pR_5 hP1)
            have s5e : ∀ {x y : AObj} {v5 v7 w : D}, sset b5 (.arr 1 [w]) (rowsP oo' fo' s' (pR bc l1 r1 b4 b5 b7 x v5 v7 (sset bc y R0))) = rowsP oo' fo' s' (pR bc l1 r1 b4 b5 b7 x w v7 (sset bc y R0)) := fun {x y v5 v7 w} => by
              rw [hgr6.sset _ (by rw [pR_5 hP1]; rfl), pR_s5 hP1]
            simp only [go_sem, g5e, s5e]
            refine hK _ _ ?_; clear hK K
            refine Goes.inBlock ?_
            refine Goes.roundDoneL hR1 hLP1 (hgr6.keep pR_l) ?_
            rw [hps]
            refine ⟨rfl, oo', fo', hgr5.base fun b hb => pR_dom id hb, ?_⟩
            rw [hgr6.sset _ (by rw [pR_l]; rfl), pR_sl, hRS]
            rfl
        · have hnin : (st.found.any fun s => (lB n).toList == s.toList) = true := by simpa using h71
          refine Goes.skip ?_
          have hst3 : PSt.Ok ⟨st.out, st.found, st.many + 1⟩ := ⟨hst.out, (by have := hst.found; show st.found.length ≤ st.many + 1; omega), hm, hst.right⟩
          have hw2 : IntKind.i64.wrap (11 - ((d + 1 : Nat) : Int) + 1) = 11 - (d : Int) := by rw [wrap_in _ (by omega) (by omega)]; omega
          have hon : (own.map bD).length = own.length := List.length_map ..
          have hol : own.length < 2 ^ 40 := by
            unfold findF at hf
            cases hff : files.find? (fun f => f.name.toList == (lB n).toList) with
            | none => rw [hff] at hf; cases hf
            | some f => rw [hff] at hf; cases hf; exact hfb f (List.mem_of_find?_eq_some hff)
          have hckS : ∀ (s' : PSt) (fo' : Option Nat), ckS args decl files bc (pR bc l1 r1 b4 b5 b7 (LP1 .busy none) (.own oo 1 st.out.length) (.v (.int .i64 (11 - ((d + 1 : Nat) : Int)))) R0) s' fo' = pR bc l1 r1 b4 b5 b7 (LP1 .busy none) (.own oo 1 st.out.length) (.v (.int .i64 (11 - ((d + 1 : Nat) : Int)))) (ckS args decl files bc R0 s' fo') := fun s' fo' => pR_sb hP hbc
          have hgr3 : GrP oo fo ⟨st.out, st.found, st.many + 1⟩ (pR bc l1 r1 b4 b5 b7 .dblk .any .any R0) := ⟨hgr.o, hgr.f⟩
          have hcall := hrec oo fo o3 own ⟨st.out, st.found, st.many + 1⟩ (pR bc l1 r1 b4 b5 b7 (LP1 .busy none) (.own oo 1 st.out.length) (.v (.int .i64 (11 - ((d + 1 : Nat) : Int)))) R0) hst3 (by
            obtain ⟨z, hz⟩ := Option.isSome_iff_exists.1 hbc
            rw [pR_in hP hz]; rfl) (hgr3.base fun b hb => pR_dom id hb) (by rw [hckS]; exact hg4) hol
          simp only [hckS] at hcall
          have hps : putStep files (putsD files d) line st = putsD files d own ⟨st.out, st.found, st.many + 1⟩ := by
            unfold putStep
            rw [hinc]
            simp only [hf]
            rw [if_pos ⟨hr, hm⟩, show addF st.found (lB n) = st.found by unfold addF; rw [if_pos hnin]]
          have g4d : ∀ {x y : AObj} {v5 v7 : D}, sget b4 (cellsOf o3 1 (own.map bD) ++ rowsP oo fo ⟨st.out, st.found, st.many + 1⟩ (pR bc l1 r1 b4 b5 b7 x v5 v7 (sset bc y R0))) = some (.arr 1 [.ptr bc 5 0 0]) := fun {x y v5 v7} => (hg4 (x := x) (y := y) (v5 := v5) (v7 := v7)).keep ((hgr3.base fun b hb => pR_dom (fun h => sset_dom h) hb).keep (pR_4 hP1))
          have g5d : ∀ {x y : AObj} {v5 v7 : D}, sget b5 (cellsOf o3 1 (own.map bD) ++ rowsP oo fo ⟨st.out, st.found, st.many + 1⟩ (pR bc l1 r1 b4 b5 b7 x v5 v7 (sset bc y R0))) = some (.arr 1 [v5]) := fun {x y v5 v7} => (hg4 (x := x) (y := y) (v5 := v5) (v7 := v7)).keep ((hgr3.base fun b hb => pR_dom (fun h => sset_dom h) hb).keep (pR_5 hP1))
          have g7d : ∀ {x y : AObj} {v5 v7 : D}, sget b7 (cellsOf o3 1 (own.map bD) ++ rowsP oo fo ⟨st.out, st.found, st.many + 1⟩ (pR bc l1 r1 b4 b5 b7 x v5 v7 (sset bc y R0))) = some (.arr 1 [v7]) := fun {x y v5 v7} => (hg4 (x := x) (y := y) (v5 := v5) (v7 := v7)).keep ((hgr3.base fun b hb => pR_dom (fun h => sset_dom h) hb).keep (pR_7 hP1))
          change Goes C2 _ _ (cellsOf o3 1 (own.map bD) ++ rowsP oo fo ⟨st.out, st.found, st.many + 1⟩ (pR bc l1 r1 b4 b5 b7 (LP1 .busy none) (.own oo 1 st.out.length) (.v (.int .i64 (11 - ((d + 1 : Nat) : Int)))) (ckS args decl files bc R0 ⟨st.out, st.found, st.many + 1⟩ fo)))
          unfold ckS at hcall ⊢
          rcases hq : putsD files d own ⟨st.out, st.found, st.many + 1⟩ with _ | s'
          · rw [hq] at hcall hps
            refine Goes.region [4, 5, 7, 8, 12] fun K hK => ?_; simp (maxSteps := 4000000) only [go_sem, g4d, g5d, g7d, hw2, hon]
            refine ⟨_, Tryz.call137, hcall.mono ?_⟩
            rintro e σ1 ⟨rfl, hk⟩
            simp only [go_sem]
            refine Pan.ofRound hR1 ?_
            rw [hps]
            exact ⟨rfl, hk.pR hP, hk _ _ hrbc (pR_r hP)⟩
          · rw [hq] at hcall hps
            refine Goes.region [4, 5, 7, 8, 12] fun K hK => ?_; simp (maxSteps := 4000000) only [go_sem, g4d, g5d, g7d, hw2, hon]
            refine ⟨_, Tryz.call137, hcall.mono ?_⟩
            rintro e σ1 ⟨oo', fo', hgr5, rfl, rfl⟩
            simp only [go_sem]
            have hgr6 : ∀ {x y : AObj} {v5 v7 : D}, GrP oo' fo' s' (pR bc l1 r1 b4 b5 b7 x v5 v7 (sset bc y R0)) := fun {x y v5 v7} => hgr5.base fun b hb => pR_dom (fun h => sset_dom h) hb
            have g5e : ∀ {x y : AObj} {v5 v7 : D}, sget b5 (rowsP oo' fo' s' (pR bc l1 r1 b4 b5 b7 x v5 v7 (sset bc y R0))) = some (.arr 1 [v5]) := hgr6.keep (pR_5 hP1)
            have s5e : ∀ {x y : AObj} {v5 v7 w : D}, sset b5 (.arr 1 [w]) (rowsP oo' fo' s' (pR bc l1 r1 b4 b5 b7 x v5 v7 (sset bc y R0))) = rowsP oo' fo' s' (pR bc l1 r1 b4 b5 b7 x w v7 (sset bc y R0)) := fun {x y v5 v7 w} => by
              rw [hgr6.sset _ (by rw [pR_5 hP1]; rfl), pR_s5 hP1]
            simp only [go_sem, g5e, s5e]
            refine hK _ _ ?_; clear hK K
            refine Goes.inBlock ?_
            refine Goes.roundDoneL hR1 hLP1 (hgr6.keep pR_l) ?_
            rw [hps]
            refine ⟨rfl, oo', fo', hgr5.base fun b hb => pR_dom id hb, ?_⟩
            rw [hgr6.sset _ (by rw [pR_l]; rfl), pR_sl, hRS]
            rfl
  obtain ⟨F, hF⟩ : ∃ F, putStep files (putsD files d) = F := ⟨_, rfl⟩
  rw [hF] at hround
  have hput : putsD files (d + 1) b st = lnGo F b [] st := by rw [← hF]; rfl
  rw [hput] at hC1
  have hFok : ∀ l s s', s.Ok → F l s = some s' → s'.Ok := fun l s s' hs he => putStep_ok (putsD_ok files d) l s s' hs (by rw [hF]; exact he)
  have hB : SeqB l1 10 1 (fun r τ => ∃ oo fo s1, PSt.Ok s1 ∧ GrP oo fo s1 (pR bc l1 r1 b4 b5 b7 .dblk .any .any R0) ∧ τ = RS oo fo s1 (LP1 .ready none) ∧ lnGo F r [] s1 = lnGo F b [] st ∧ r.length ≤ b.length) (fun e τ => match e with
      | .ret _ => ∃ oo fo s', lnGo F b [] st = some s' ∧ GrP oo fo s' (pR bc l1 r1 b4 b5 b7 .dblk .any .any R0) ∧ τ = RS oo fo s' (LP1 .ready none)
      | .panic dd => dd = failD ∧ lnGo F b [] st = none ∧ KeepX bc R0 τ ∧ sget r1 τ = some .dblk) := by
    refine ⟨?_, ?_⟩
    · rintro r k τ ⟨oo, fo, s1, hok, hgr, rfl, hgo, hln⟩ hk hkl
      rw [lnGo_mid r [] s1 k hk, List.nil_append] at hgo
      refine (hround (r.take (k + 1)) s1 oo fo hok hgr (by rw [List.length_take]; omega)).mono ?_
      intro e τ' h
      cases hc : F (r.take (k + 1)) s1 with
      | none =>
        rw [hc] at h hgo
        obtain ⟨rfl, hk1, hk2⟩ := h
        exact .inr (.inr ⟨failD, rfl, rfl, hgo.symm, hk1, hk2⟩)
      | some s2 =>
        rw [hc] at h hgo
        obtain ⟨rfl, oo', fo', hg', rfl⟩ := h
        exact .inl ⟨rfl, oo', fo', s2, hFok _ _ _ hok hc, hg', rfl, hgo, by rw [List.length_drop]; omega⟩
    · rintro r τ ⟨oo, fo, s1, hok, hgr, rfl, hgo, hln⟩ hk
      rw [lnGo_last r [] s1 hk, List.nil_append] at hgo
      refine (hround r s1 oo fo hok hgr (by omega)).mono ?_
      intro e τ' h
      cases hc : F r s1 with
      | none =>
        rw [hc] at h hgo
        obtain ⟨rfl, hk1, hk2⟩ := h
        exact .inr ⟨failD, rfl, rfl, hgo.symm, hk1, hk2⟩
      | some s2 =>
        rw [hc] at h hgo
        obtain ⟨rfl, oo', fo', hg', rfl⟩ := h
        exact .inl ⟨_, rfl, oo', fo', s2, hgo.symm, hg', rfl⟩
  have hP0 : ∀ {y : AObj}, PN l1 r1 b4 b5 b7 (sset bc y R0) := fun {y} => hP.base fun b hb => sset_dom hb
  have hgb0 : ∀ {x y : AObj} {v5 v7 : D}, GrP oo fo st (pR bc l1 r1 b4 b5 b7 x v5 v7 (sset bc y R0)) := fun {x y v5 v7} => hgPB.base fun b hb => pR_dom (fun h => sset_dom h) hb
  have hZ : SLe (rowsP oo fo st (ckS args decl files bc R0 st fo)) ((b7, .arr 1 [.v (.int .i64 (11 - ((d + 1 : Nat) : Int)))]) :: (b5, .arr 1 [.own oo 1 st.out.length]) :: (b4, .arr 1 [.ptr bc 5 0 0]) :: (cellsOf ob 1 (b.map bD) ++ rowsP oo fo st (ckS args decl files bc R0 st fo))) := sle_push (sle_push (sle_push hgb.sle hb4) hb5) hb7
  have hZ1 : SLe (rowsP oo fo st (ckS args decl files bc R0 st fo)) ((l1, LP1 .ready none) :: (r1, .dblk) :: (seqC bs bd bk b 10 1 ++ ((b7, .arr 1 [.v (.int .i64 (11 - ((d + 1 : Nat) : Int)))]) :: (b5, .arr 1 [.own oo 1 st.out.length]) :: (b4, .arr 1 [.ptr bc 5 0 0]) :: (cellsOf ob 1 (b.map bD) ++ rowsP oo fo st (ckS args decl files bc R0 st fo))))) := sle_push (sle_push (hZ.trans (SLe.append_right hap.symm)) hr1) (by rw [sget_cons, if_neg hlr]; exact hl1)
  have hne2 : ∀ {c k : Nat} {x : AObj} {τ : Store}, sget k τ = none → sget c τ ≠ none → c ≠ k := fun {c k x τ} hk hc e => hc (by rw [e]; exact hk)
  have hin : ∀ {c : Nat} {o : AObj}, sget c ((b7, .arr 1 [.v (.int .i64 (11 - ((d + 1 : Nat) : Int)))]) :: (b5, .arr 1 [.own oo 1 st.out.length]) :: (b4, .arr 1 [.ptr bc 5 0 0]) :: (cellsOf ob 1 (b.map bD) ++ rowsP oo fo st (ckS args decl files bc R0 st fo))) = some o → sget c ((l1, LP1 .ready none) :: (r1, .dblk) :: (seqC bs bd bk b 10 1 ++ ((b7, .arr 1 [.v (.int .i64 (11 - ((d + 1 : Nat) : Int)))]) :: (b5, .arr 1 [.own oo 1 st.out.length]) :: (b4, .arr 1 [.ptr bc 5 0 0]) :: (cellsOf ob 1 (b.map bD) ++ rowsP oo fo st (ckS args decl files bc R0 st fo))))) = some o := fun {c o} h =>
    (sle_push (sle_push (SLe.append_right hap.symm) hr1) (by rw [sget_cons, if_neg hlr]; exact hl1)) c o h
  have hτ : SLe (RS oo fo st (LP1 .ready none)) ((l1, LP1 .ready none) :: (r1, .dblk) :: (seqC bs bd bk b 10 1 ++ ((b7, .arr 1 [.v (.int .i64 (11 - ((d + 1 : Nat) : Int)))]) :: (b5, .arr 1 [.own oo 1 st.out.length]) :: (b4, .arr 1 [.ptr bc 5 0 0]) :: (cellsOf ob 1 (b.map bD) ++ rowsP oo fo st (ckS args decl files bc R0 st fo))))) := by
    rw [hRS]
    unfold rowsP pR
    refine SLe.append ((SLe.append_left _ _).trans hZ1) (SLe.append (((SLe.append_left _ _).trans hgP.o.sle).trans hZ1) ?_)
    refine .cons (sget_self ..) (.cons (by rw [sget_cons, if_neg (Ne.symm hlr), sget_self]) (.cons (hin (sget_self ..)) (.cons (hin ?_) (.cons (hin ?_) (hsX.trans hZ1)))))
    · rw [sget_cons, if_neg hP.h57, sget_self]
    · rw [sget_cons, if_neg hP.h47, sget_cons, if_neg hP.h45, sget_self]
  have hapx : Apart (seqC bs bd bk b 10 1) (RS oo fo st (LP1 .ready none)) := fun c hc => by
    cases hx : sget c (RS oo fo st (LP1 .ready none)) with
    | none => rfl
    | some o =>
      have h1 := hτ c o hx
      have hcl : c ≠ l1 := fun e => hc (by rw [e]; exact hl2.1)
      have hcr : c ≠ r1 := fun e => hc (by rw [e]; exact hr2.1)
      rw [sget_cons, if_neg hcl, sget_cons, if_neg hcr] at h1
      have h2 := hap c hc
      obtain ⟨y, hy⟩ := Option.ne_none_iff_exists'.1 hc
      rw [hRS] at hx
      have h3 : sget c (rowsP oo fo st (pR bc l1 r1 b4 b5 b7 (LP1 .ready none) (.own oo 1 st.out.length) (.v (.int .i64 (11 - ((d + 1 : Nat) : Int)))) (ckS args decl files bc R0 st fo))) = none := rows_dom (A := ckS args decl files bc R0 st fo) (none_of_sle hZ h2) fun h => by
        have h4 := hne (show sget c ((b7, _) :: _) = none from h2)
        have h5 := hne h4.2
        have h6 := hne h5.2
        unfold pR
        rw [sget_cons, if_neg hcl, sget_cons, if_neg hcr, sget_cons, if_neg h4.1, sget_cons, if_neg h5.1, sget_cons, if_neg h6.1, h]
      rw [h3] at hx; cases hx
  refine (splitSeq1_calls (by omega) hB hN b hbl (RS oo fo st (LP1 .ready none)) _ ⟨oo, fo, st, hst, hgPB, rfl, rfl, Nat.le_refl _⟩ hapx hτ (fun c o hc => ?_)).mono ?_
  · rw [sget_cons, if_neg (fun e => by rw [e, hl2.1] at hc; cases hc), sget_cons, if_neg (fun e => by rw [e, hr2.1] at hc; cases hc)]
    exact sget_append_some hc
  rintro e σ' ⟨τ', hle, hQ⟩
  rcases e with dd | dd
  rotate_left
  · obtain ⟨rfl, hnone, hk1, hk2⟩ := hQ
    refine Pan.ofM (σ' := sdel r1 τ') hC1 Tryz.func137 (by simp) (fun c hc => ?_) (fun c o hc => ?_) (fun c hc => ?_) ?_
    · rw [List.mem_singleton.1 hc]; exact hle _ _ hk2
    · rw [sget_sdel] at hc
      split at hc
      · cases hc
      · exact hle _ _ hc
    · rw [List.mem_singleton.1 hc, sget_sdel, if_pos rfl]
    · rw [hnone]
      refine ⟨rfl, fun c o hcb hc => ?_⟩
      rw [sget_sdel, if_neg (fun e => by rw [e, hP.nr] at hc; cases hc)]
      exact hk1 c o hcb hc
  obtain ⟨oo', fo', s', hsome, hgr, rfl⟩ := hQ
  rw [hsome] at hC1
  rw [hRS] at hle
  have hgr6 : ∀ {x y : AObj} {v5 v7 : D}, GrP oo' fo' s' (pR bc l1 r1 b4 b5 b7 x v5 v7 (sset bc y R0)) := fun {x y v5 v7} => hgr.base fun b hb => pR_dom (fun h => sset_dom h) hb
  unfold ckS at hle hC1
  refine ⟨.ready, none, hle _ _ (hgr6.keep pR_l), rfl, ?_⟩
  refine Goes.le (ELe.refl _) (hle.sset (by rw [hgr6.keep pR_l]; rfl)) ?_
  rw [hgr6.sset _ (by rw [pR_l]; rfl), pR_sl]
  simp only [Option.map_none, Option.toList_none, List.nil_append]
  have g5z : ∀ {x y : AObj} {v5 v7 : D}, sget b5 (rowsP oo' fo' s' (pR bc l1 r1 b4 b5 b7 x v5 v7 (sset bc y R0))) = some (.arr 1 [v5]) := hgr6.keep (pR_5 hP0)
  have hpn : ∀ c, sget c (pR bc l1 r1 b4 b5 b7 .dblk .any .any R0) = none → sget c R0 = none := fun c hc => by
    cases hx : sget c R0 with
    | none => rfl
    | some o => rw [pR_in hP hx] at hc; cases hc
  have hgr7 : GrP oo' fo' s' R0 := hgr.base hpn
  refine Goes.inBlock ?_
  refine Goes.seq ?_
  refine Goes.region [5] fun K hK => ?_; simp (maxSteps := 4000000) only [go_sem, g5z]
  refine hK _ _ ?_; clear hK K
  refine Goes.retM (σ' := rowsP oo' fo' s' (sset bc (ckR args decl files (.own fo' 1 s'.found.length) (s'.many : Int)) R0)) hC1 Tryz.func137 (by simp) (fun c hc => ?_) (rows_sle hgr6 (fun c o hc => pR_in hP0 hc)) (fun c hc => ?_) (by simp [go_sem]) ?_
  · rw [List.mem_singleton.1 hc]; exact hgr6.keep (pR_r hP0)
  · rw [List.mem_singleton.1 hc]; exact rows_none (hgr6 (x := .dblk) (y := .dblk) (v5 := .any) (v7 := .any)) (by rw [pR_r hP0]; rfl) (sset_dom hP.nr)
  · simp only [go_sem]
    exact ⟨oo', fo', hgr7, rfl, rfl⟩
theorem puts_calls (hfl : files.length < 2 ^ 31) (hfb : ∀ f ∈ files, f.b.length < 2 ^ 40) : ∀ lv, lv ≤ 11 → PutsC args decl files bc lv
  | 0, _ => puts_zero args decl files bc
  | d + 1, h => puts_succ args decl files bc hfl hfb d (by omega) (puts_calls hfl hfb d (by omega))
end
end Go.Ab.S16
set_option linter.unusedSimpArgs false
set_option linter.unusedVariables false
set_option linter.constructorNameAsVariable false
namespace Go.Ab.S16
open Go Go.Proofs Go.RowKit
def incM (args decl : List ByteArray) (files : List XFile) : Option PSt := (oneB decl files args).bind fun b => putsD files 11 b ⟨[], [], 0⟩
/-- What a verb hands back: a row of bytes of one's own; the cook's row with the names that were put in. -/
def VR (args decl : List ByteArray) (files : List XFile) (bc : Nat) (σ : Store) (spec : Option (List UInt8 × List ByteArray)) (e : AEnd) (σ' : Store) : Prop := match spec with
  | some (b, found) => ∃ (o fo : Option Nat) (many : Int), GrD o 1 (b.map bD) (cellsOf fo 1 (found.map sD) ++ sset bc (ckR args decl files (.own fo 1 found.length) many) σ) ∧ GrD fo 1 (found.map sD) (sset bc (ckR args decl files (.own fo 1 found.length) many) σ) ∧ e = .ret (.own o 1 b.length) ∧ σ' = cellsOf o 1 (b.map bD) ++ (cellsOf fo 1 (found.map sD) ++ sset bc (ckR args decl files (.own fo 1 found.length) many) σ)
  | none => e = .panic failD ∧ KeepX bc σ σ'
section
variable (args decl : List ByteArray) (files : List XFile) (bc : Nat) (σ : Store)
theorem VR.of_AR {spec : Option (List UInt8)} {e : AEnd} {σ' : Store} (hc : sget bc σ = some (ckR args decl files (.own none 1 0) 0)) (h : AR spec (ownRet σ) σ e σ') : VR args decl files bc σ (spec.map fun b => (b, [])) e σ' := by
  cases spec with
  | none => exact ⟨h.1, fun b o _ hb => h.2 b o hb⟩
  | some b =>
    obtain ⟨o, hg, he, hs⟩ := h
    have hss : sset bc (ckR args decl files (.own none 1 ([] : List ByteArray).length) 0) σ = σ := sset_same hc
    refine ⟨o, none, 0, ?_, ?_, ?_, ?_⟩
    · show GrD o 1 (b.map bD) (sset bc _ σ)
      rw [hss]; exact hg
    · exact GrD.nil _ _
    · rw [he, List.length_map]
    · rw [hs, hss]; rfl
theorem inc_calls (hc : sget bc σ = some (ckR args decl files (.own none 1 0) 0)) (hl : files.length < 2 ^ 31) (hb : ∀ f ∈ files, f.b.length < 2 ^ 40) (hd : decl.length < 2 ^ 40) (ha : args.length < 2 ^ 40) :
    ACalls Tryz.prog 110 [.ptr bc 5 0 0] σ (VR args decl files bc σ ((incM args decl files).map fun s => (s.out, s.found))) := by
  have hone := one_calls args decl files (.own none 1 0) 0 bc σ hc hl hb hd ha
  refine ACalls.of_body Tryz.func110 rfl Tryz.ntmps110 (by simp) fun C hC => ?_
  cases h1 : oneB decl files args with
  | none =>
    rw [h1] at hone
    have hi : incM args decl files = none := by unfold incM; rw [h1]; rfl
    rw [hi] at hC
    refine Goes.seq ?_
    refine Goes.region [0] fun K hK => ?_; simp (maxSteps := 4000000) only [go_sem]
    refine hK _ _ ?_; clear hK K
    refine Goes.seq ?_
    refine Goes.region [0] fun K hK => ?_; simp (maxSteps := 4000000) only [go_sem]
    refine ⟨_, Tryz.call131, hone.mono ?_⟩
    rintro e σ1 ⟨rfl, hs⟩
    simp only [go_sem]
    exact Pan.of hC Tryz.func110 ⟨rfl, fun b o _ hb => hs b o hb⟩
  | some b =>
    rw [h1] at hone
    have hi : incM args decl files = putsD files 11 b ⟨[], [], 0⟩ := by unfold incM; rw [h1]; rfl
    have hbl : b.length < 2 ^ 40 := by
      unfold oneB at h1
      split at h1
      · unfold argF at h1
        obtain ⟨b', hf, h2⟩ := Option.bind_eq_some_iff.1 h1
        split at h2
        · cases h2
          unfold findF at hf
          cases hff : files.find? (fun f => f.name.toList == _) with
          | none => rw [hff] at hf; cases hf
          | some f => rw [hff] at hf; cases hf; exact hb f (List.mem_of_find?_eq_some hff)
        · cases h2
      · cases h1
    have hss : sset bc (ckR args decl files (.own none 1 ([] : List ByteArray).length) ((0 : Nat) : Int)) σ = σ := sset_same hc
    have hps := fun (ob : Option Nat) (hg : GrD ob 1 (b.map bD) σ) => puts_calls args decl files bc hl hb 11 (Nat.le_refl _) none none ob b ⟨[], [], 0⟩ σ ⟨by simp, by simp, by simp, by simp⟩ (by rw [hc]; rfl) ⟨GrD.nil _ _, GrD.nil _ _⟩ (by
      show GrD ob 1 (b.map bD) (sset bc _ σ)
      rw [hss]; exact hg) hbl
    rw [hi] at hC
    refine Goes.seq ?_
    refine Goes.region [0] fun K hK => ?_; simp (maxSteps := 4000000) only [go_sem]
    refine hK _ _ ?_; clear hK K
    refine Goes.seq ?_
    refine Goes.region [0] fun K hK => ?_; simp (maxSteps := 4000000) only [go_sem]
    refine ⟨_, Tryz.call131, hone.mono ?_⟩
    rintro e σ1 ⟨o, hg, rfl, rfl⟩
    simp only [go_sem]
    have hp := hps o hg
    unfold ckS at hp
    rw [hss] at hp
    have hp2 := ACalls.args_le (args := [.ptr bc 5 0 0, .v (.slice none 0 0), .own o 1 (b.map bD).length, .v (.int .i64 0)]) hp fun w S vs h => by
      obtain ⟨v1, vs1, rfl, h1, h2⟩ := h.cons_inv
      obtain ⟨v2, vs2, rfl, h3, h4⟩ := h2.cons_inv
      rw [List.length_map] at h4
      exact .cons h1 (.cons (DLe.nil_own 1 w S v2 h3) h4)
    clear hp
    rcases hq : putsD files 11 b ⟨[], [], 0⟩ with _ | s'
    · rw [hq] at hp2 hC
      refine ⟨_, Tryz.call137, hp2.mono ?_⟩
      rintro e σ' ⟨rfl, hk⟩
      simp only [go_sem]
      exact Pan.of hC Tryz.func110 ⟨rfl, hk⟩
    rw [hq] at hp2 hC
    refine ⟨_, Tryz.call137, hp2.mono ?_⟩
    rintro e σ' ⟨oo, fo, hgp, rfl, rfl⟩
    simp only [go_sem]
    refine hK _ _ ?_; clear hK K
    refine Goes.ret hC Tryz.func110 (by simp [go_sem]) ?_
    simp only [go_sem]
    have hgs : GrP oo fo s' (sset bc (ckR args decl files (.own fo 1 s'.found.length) (s'.many : Int)) σ) := hgp.base fun b hb => sset_dom hb
    exact ⟨oo, fo, (s'.many : Int), hgs.o, hgs.f, rfl, rfl⟩
/-- What a verb makes, and the names that were put in. -/
def runV (args decl : List ByteArray) (files : List XFile) (verb : List UInt8) : Option (List UInt8 × List ByteArray) :=
  if verb = [99, 97, 116] then (allB decl files args []).map fun b => (b, [])
  else if verb = [114, 101, 118] then ((oneB decl files args).map List.reverse).map fun b => (b, [])
  else if verb = [115, 117, 109] then (sumF decl files args).map fun b => (b, [])
  else if verb = [112, 117, 116] then some (putB args, [])
  else if verb = [105, 110, 99] then (incM args decl files).map fun s => (s.out, s.found)
  else none
def isVerb (verb : List UInt8) : Bool := [[99, 97, 116], [114, 101, 118], [115, 117, 109], [112, 117, 116], [105, 110, 99], [102, 97, 105, 108]].contains verb
theorem verb_spec (verb : List UInt8) (hv : isVerb verb = true) (hc : sget bc σ = some (ckR args decl files (.own none 1 0) 0)) (hl : files.length < 2 ^ 31) (hb : ∀ f ∈ files, f.b.length < 2 ^ 20) (hd : decl.length < 2 ^ 40) (ha : args.length < 2 ^ 16)
    (hj : (Lib.join (args.map (·.data.toList)) [32]).length < 2 ^ 45) : ∃ g, mfind (.string (lB verb)) verbsM = some (.clo (.func g) [] []) ∧ (∀ args w, (callFunc g args).run Tryz.prog w = .ok (.enter g args) w) ∧ ACalls Tryz.prog g [.ptr bc 5 0 0] σ (VR args decl files bc σ (runV args decl files verb)) := by
  have hb40 : ∀ f ∈ files, f.b.length < 2 ^ 40 := fun f hf => Nat.lt_trans (hb f hf) (by decide)
  have key : verb = [99, 97, 116] ∨ verb = [114, 101, 118] ∨ verb = [115, 117, 109] ∨ verb = [112, 117, 116] ∨ verb = [105, 110, 99] ∨ verb = [102, 97, 105, 108] := by simpa [isVerb] using hv
  rcases key with rfl | rfl | rfl | rfl | rfl | rfl
  · refine ⟨_, (by kernel_rfl : mfind (.string (lB [99, 97, 116])) verbsM = some (.clo (.func 106) [] [])), Tryz.call106, ?_⟩
    exact (cat_calls args decl files _ _ bc σ hc hl hb40 hd (by omega)).mono fun e σ' h => VR.of_AR args decl files bc σ hc h
  · refine ⟨_, (by kernel_rfl : mfind (.string (lB [114, 101, 118])) verbsM = some (.clo (.func 107) [] [])), Tryz.call107, ?_⟩
    exact (rev_calls args decl files _ _ bc σ hc hl hb40 hd (by omega)).mono fun e σ' h => VR.of_AR args decl files bc σ hc h
  · refine ⟨_, (by kernel_rfl : mfind (.string (lB [115, 117, 109])) verbsM = some (.clo (.func 108) [] [])), Tryz.call108, ?_⟩
    exact (sum_calls args decl files _ _ bc σ hc hl hb hd ha).mono fun e σ' h => VR.of_AR args decl files bc σ hc h
  · refine ⟨_, (by kernel_rfl : mfind (.string (lB [112, 117, 116])) verbsM = some (.clo (.func 109) [] [])), Tryz.call109, ?_⟩
    exact (put_calls args decl files _ _ bc σ hc (by omega) hj).mono fun e σ' h => VR.of_AR (spec := some (putB args)) args decl files bc σ hc h
  · refine ⟨_, (by kernel_rfl : mfind (.string (lB [105, 110, 99])) verbsM = some (.clo (.func 110) [] [])), Tryz.call110, ?_⟩
    exact inc_calls args decl files bc σ hc hl hb40 hd (by omega)
  · refine ⟨_, (by kernel_rfl : mfind (.string (lB [102, 97, 105, 108])) verbsM = some (.clo (.func 111) [] [])), Tryz.call111, ?_⟩
    exact (fail_calls bc σ).mono fun e σ' h => VR.of_AR (spec := none) args decl files bc σ hc h
end
end Go.Ab.S16
set_option linter.unusedSimpArgs false
set_option linter.unusedVariables false
set_option linter.constructorNameAsVariable false
namespace Go.Ab.S16
open Go Go.Proofs Go.RowKit
theorem verb_none (verb : List UInt8) (hv : isVerb verb = false) : mfind (.string (lB verb)) verbsM = none := by
  have e : verbsM = [(.string (lB [99, 97, 116]), .clo (.func 106) [] []), (.string (lB [114, 101, 118]), .clo (.func 107) [] []), (.string (lB [115, 117, 109]), .clo (.func 108) [] []), (.string (lB [112, 117, 116]), .clo (.func 109) [] []), (.string (lB [105, 110, 99]), .clo (.func 110) [] []), (.string (lB [102, 97, 105, 108]), .clo (.func 111) [] [])] := by kernel_rfl
  have hk : ∀ w : List UInt8, verb ≠ w → ¬ keyEq (.string (lB verb)) (.string (lB w)) = true := fun w h hq => by
    have : lB verb = lB w := by simpa [keyEq] using hq
    exact h (by rw [← bL_lB verb, this, bL_lB])
  simp only [isVerb, List.contains_eq_mem, List.mem_cons, List.not_mem_nil, or_false, decide_eq_false_iff_not, not_or] at hv
  obtain ⟨h1, h2, h3, h4, h5, h6⟩ := hv
  rw [e]
  simp only [mfind, if_neg (hk _ h1), if_neg (hk _ h2), if_neg (hk _ h3), if_neg (hk _ h4), if_neg (hk _ h5), if_neg (hk _ h6)]
theorem space_gives (W : World) (x : Nat) : FnGives Tryz.prog 104 #[] #[encR x] (.bool (x == 32)) W := by
  unfold FnGives
  show Calls Tryz.prog 104 #[.int .i32 (x : Int)] W _
  go_enter Tryz.func104, Tryz.ntmps104
  go_wp2
  go_ret
  have hx : ((x : Int) == 32) = (x == 32) := by
    rw [Bool.eq_iff_iff, beq_iff_eq, beq_iff_eq]
    omega
  refine ⟨?_, 0, rfl⟩
  show Ending.returned (.bool ((x : Int) == 32)) = Ending.returned (.bool (x == 32))
  rw [hx]
/-- The words of a command. -/
def wordsM (s : ByteArray) : List ByteArray := Lib.goFieldsP (fun x => x == 32) s
theorem fields_calls (s : ByteArray) (hs : s.size ≤ 4294967296) (σ : Store) : ACalls Tryz.prog 103 [.v (.string s), .clo (.func 104) [] []] σ
    (fun e σ' => ∃ o, GrD o 1 ((wordsM s).map sD) σ ∧ e = .ret (.own o 1 ((wordsM s).map sD).length) ∧ σ' = cellsOf o 1 ((wordsM s).map sD) ++ σ) := by
  refine (ACalls.of_row (e0 := 9) (R := fun xs => xs = (wordsM s).map Value.string) fun w S vs hS hst hr => ?_).mono ?_
  · obtain ⟨v1, vs1, rfl, h1, h2⟩ := hr.cons_inv
    obtain ⟨v2, vs2, rfl, h3, h4⟩ := h2.cons_inv
    obtain rfl := h4.nil_inv
    obtain rfl := h1.v_inv
    cases h3 with
    | clo hf hc =>
    obtain rfl := hf.nil_inv
    obtain rfl := hc.nil_inv
    refine (Tryz.strings_FieldsFunc_runes 104 #[] Tryz.call104 (fun x => x == 32) s w hs (fun W x _ _ => space_gives W x)).mono ?_
    rintro e w' ⟨A, rfl, hA, hrow, hb⟩
    refine ⟨_, (wordsM s).map Value.string, rfl, ?_, ?_, rfl, hb⟩
    · rw [List.length_map]; exact hrow
    · rw [List.all_eq_true]
      intro v hv
      obtain ⟨t, _, rfl⟩ := List.mem_map.1 hv
      rfl
  · rintro e σ' ⟨o, xs, rfl, hg, rfl, rfl⟩
    have hm : ((wordsM s).map Value.string).map D.v = (wordsM s).map sD := by rw [List.map_map]; rfl
    rw [hm] at hg ⊢
    exact ⟨o, hg, rfl, rfl⟩
/-- Is a word an output, behind others? -/
def okAt (ws : List ByteArray) (i : Nat) : Bool := match ws[i]? with
  | some n => rightM (bL n) && !((ws.take i).any fun s => n.toList == s.toList)
  | none => true
def chkO (ws : List ByteArray) (dep : ByteArray) : Option (List ByteArray × ByteArray) := if (∀ i < ws.length, okAt ws i = true) ∧ 0 < ws.length then some (ws, dep) else none
/-- A command's outputs, and its depfile. -/
def outsM (ws : List ByteArray) : Option (List ByteArray × ByteArray) :=
  match ws.findIdx? (fun s => (⟨#[58]⟩ : ByteArray).toList == s.toList) with
  | some k => if k + 2 = ws.length ∧ rightM (bL (ws.getD (k + 1) ⟨#[]⟩)) = true then chkO (ws.take k) (ws.getD (k + 1) ⟨#[]⟩) else none
  | none => chkO ws ⟨#[]⟩
theorem outputs_calls (ws : List ByteArray) (hl : ws.length < 2 ^ 40) (hB : ∀ s ∈ ws, s.size < 2 ^ 40) (σ : Store) :
    ACalls Tryz.prog 105 [.slc (ws.map sD)] σ (AR (outsM ws) (fun x e σ' => e = .ret (.tup [.slc (x.1.map sD), .v (.string x.2)]) ∧ σ' = σ) σ) := by
  have hll : (ws.map sD).length = ws.length := List.length_map ..
  refine ACalls.of_body Tryz.func105 rfl Tryz.ntmps105 (by simp) fun C hC => ?_
  cases hk : ws.findIdx? (fun s => (⟨#[58]⟩ : ByteArray).toList == s.toList) with
  | none =>
    have hi : idxI (fun s : ByteArray => (⟨#[58]⟩ : ByteArray).toList == s.toList) ws = -1 := by unfold idxI; rw [hk]
    have ho : outsM ws = chkO ws ⟨#[]⟩ := by unfold outsM; rw [hk]
    rw [ho] at hC
    refine Goes.seq ?_
    refine Goes.region [0] fun K hK => ?_; simp (maxSteps := 4000000) only [go_sem]
    refine hK _ _ ?_; clear hK K
    refine Goes.seq ?_
    refine Goes.region [0, 3] fun K hK => ?_; simp (maxSteps := 4000000) only [go_sem]
    refine ⟨_, Tryz.call89, (index_str ws ⟨#[58]⟩ _ hl).mono ?_⟩
    rintro e σ1 ⟨rfl, rfl⟩
    simp only [go_sem, hi]
    refine hK _ _ ?_; clear hK K
    refine Goes.seq ?_
    refine Goes.seq ?_
    refine Goes.region [0, 3, 4] fun K hK => ?_; simp (maxSteps := 4000000) only [go_sem]
    refine hK _ _ ?_; clear hK K
    refine Goes.condF rfl ?_
    refine Goes.skip ?_
    refine Goes.seq ?_
    refine Goes.seq ?_
    refine Goes.region [0, 3] fun K hK => ?_; simp (maxSteps := 4000000) only [go_sem, hll]
    refine hK _ _ ?_; clear hK K
    refine Goes.block ?_
    refine Goes.rebase [0, 3, 33, 34, 35] ?_
    simp only [go_sem]
    refine Goes.while (fun (i : Nat) env' σ'' => (i ≤ ws.length ∧ ∀ j < i, okAt ws j = true) ∧ env' = [(0, .slc (ws.map sD)), (3, .v (.string ⟨#[]⟩)), (33, .slc (ws.map sD)), (34, .v (.int .i64 (ws.length : Int))), (35, .v (.int .i64 (i : Int)))] ∧ σ1 = σ'') (fun (i : Nat) => ws.length - i) 0 ⟨⟨Nat.zero_le _, fun j hj => absurd hj (by omega)⟩, rfl, rfl⟩ ?_
    rintro i env' σ'' ⟨⟨hi2, hall⟩, rfl, rfl⟩ ih
    have ih1 := ih
    refine Goes.seq ?_
    refine Goes.region [0, 3, 33, 34, 35] fun K hK => ?_; simp (maxSteps := 4000000) only [go_sem]
    refine hK _ _ ?_; clear hK K
    refine Goes.seq ?_
    refine Goes.cond rfl (fun h36 => ?_) (fun h36 => ?_)
    · have hlt : i < ws.length := by simpa using h36
      have hg := getD_map_lt sD ws i hlt
      rw [sD] at hg
      have hi0 : (0 : Int) ≤ (i : Int) := by omega
      have hi1 : (i : Int) < (ws.length : Int) := by omega
      have hsz := hB _ (List.getElem_mem hlt)
      have hok : okAt ws i = (rightM (bL ws[i]) && !((ws.take i).any fun s => ws[i].toList == s.toList)) := by unfold okAt; rw [List.getElem?_eq_getElem hlt]
      have htk : (ws.map sD).take i = (ws.take i).map sD := (List.map_take ..).symm
      refine Goes.skip ?_
      refine Goes.seq ?_
      refine Goes.block ?_
      refine Goes.seq ?_
      refine Goes.region [0, 3, 33, 34, 35] fun K hK => ?_; simp (maxSteps := 4000000) only [go_sem, hll, hg, hi0, hi1]
      refine hK _ _ ?_; clear hK K
      rcases (by cases rightM (bL ws[i]) <;> cases ((ws.take i).any fun s => ws[i].toList == s.toList) <;> simp : rightM (bL ws[i]) = false ∨ (rightM (bL ws[i]) = true ∧ ((ws.take i).any fun s => ws[i].toList == s.toList) = true) ∨ (rightM (bL ws[i]) = true ∧ ((ws.take i).any fun s => ws[i].toList == s.toList) = false)) with hr | ⟨hr, ha⟩ | ⟨hr, ha⟩
      · refine Goes.region [0, 3, 5, 6, 33, 34, 35] fun K hK => ?_; simp (maxSteps := 4000000) only [go_sem, htk]
        refine ⟨_, Tryz.call113, (right_calls _ hsz _).mono ?_⟩
        rintro e σ1 ⟨rfl, rfl⟩
        simp only [go_sem, hr]
        refine ⟨_, Tryz.call81, (need_calls false _).mono ?_⟩
        rintro e σ1 ⟨rfl, rfl⟩
        simp only [go_sem]
        refine Pan.of hC Tryz.func105 ?_
        rw [show chkO ws ⟨#[]⟩ = none from if_neg fun h => by have := h.1 i hlt; rw [hok, hr] at this; cases this]
        exact ⟨rfl, SLe.refl _⟩
      · refine Goes.region [0, 3, 5, 6, 33, 34, 35] fun K hK => ?_; simp (maxSteps := 4000000) only [go_sem, htk]
        refine ⟨_, Tryz.call113, (right_calls _ hsz _).mono ?_⟩
        rintro e σ1 ⟨rfl, rfl⟩
        simp only [go_sem, hr]
        refine ⟨⟨by omega, by omega, fun y hy => (plain_sD _ y hy).1⟩, ?_⟩
        simp only [htk]
        refine ⟨_, Tryz.call50, (contains_str (ws.take i) _ _ (by rw [List.length_take]; omega)).mono ?_⟩
        rintro e σ1 ⟨rfl, rfl⟩
        simp only [go_sem, ha]
        refine ⟨_, Tryz.call81, (need_calls false _).mono ?_⟩
        rintro e σ1 ⟨rfl, rfl⟩
        simp only [go_sem]
        refine Pan.of hC Tryz.func105 ?_
        rw [show chkO ws ⟨#[]⟩ = none from if_neg fun h => by have := h.1 i hlt; rw [hok, hr, ha] at this; cases this]
        exact ⟨rfl, SLe.refl _⟩
      · refine Goes.region [0, 3, 5, 6, 33, 34, 35] fun K hK => ?_; simp (maxSteps := 4000000) only [go_sem, htk]
        refine ⟨_, Tryz.call113, (right_calls _ hsz _).mono ?_⟩
        rintro e σ1 ⟨rfl, rfl⟩
        simp only [go_sem, hr]
        refine ⟨⟨by omega, by omega, fun y hy => (plain_sD _ y hy).1⟩, ?_⟩
        simp only [htk]
        refine ⟨_, Tryz.call50, (contains_str (ws.take i) _ _ (by rw [List.length_take]; omega)).mono ?_⟩
        rintro e σ1 ⟨rfl, rfl⟩
        simp only [go_sem, ha]
        refine ⟨_, Tryz.call81, (need_calls true _).mono ?_⟩
        rintro e σ1 ⟨rfl, rfl⟩
        simp only [go_sem]
        refine hK _ _ ?_; clear hK K
        refine Goes.inBlock ?_
        refine Goes.region [0, 3, 33, 34, 35] fun K hK => ?_; simp (maxSteps := 4000000) only [go_sem]
        refine hK _ _ ?_; clear hK K
        refine Goes.rebase [0, 3, 33, 34, 35] ?_
        simp only [go_sem]
        rw [wrap_succ i (by omega)]
        exact ih (i + 1) _ _ ⟨⟨by omega, fun j hj => (by rcases Nat.lt_or_ge j i with h | h; (· exact hall j h); rw [show j = i by omega, hok, hr, ha]; rfl)⟩, rfl, rfl⟩ (by omega)
    · have hie : i = ws.length := by simp at h36; omega
      subst hie
      refine Goes.exit rfl ?_
      refine Goes.seq ?_
      by_cases hz : 0 < ws.length
      · have hzd : decide ((ws.length : Int) > 0) = true := decide_eq_true (by omega)
        refine Goes.region [0, 3] fun K hK => ?_; simp (maxSteps := 4000000) only [go_sem, hll]
        simp only [hzd]
        refine ⟨_, Tryz.call81, (need_calls true _).mono ?_⟩
        rintro e σ1 ⟨rfl, rfl⟩
        simp only [go_sem]
        refine hK _ _ ?_; clear hK K
        refine Goes.seq ?_
        refine Goes.region [0, 3] fun K hK => ?_; simp (maxSteps := 4000000) only [go_sem]
        refine hK _ _ ?_; clear hK K
        refine Goes.ret hC Tryz.func105 (by simp [go_sem]) ?_
        simp only [go_sem]
        rw [show chkO ws ⟨#[]⟩ = some (ws, ⟨#[]⟩) from if_pos ⟨hall, hz⟩]
        exact ⟨rfl, rfl⟩
      · have hzd : decide ((ws.length : Int) > 0) = false := decide_eq_false (by omega)
        refine Goes.region [0, 3] fun K hK => ?_; simp (maxSteps := 4000000) only [go_sem, hll]
        simp only [hzd]
        refine ⟨_, Tryz.call81, (need_calls false _).mono ?_⟩
        rintro e σ1 ⟨rfl, rfl⟩
        simp only [go_sem]
        refine Pan.of hC Tryz.func105 ?_
        rw [show chkO ws ⟨#[]⟩ = none from if_neg fun h => hz h.2]
        exact ⟨rfl, SLe.refl _⟩
  | some k =>
    have hi : idxI (fun s : ByteArray => (⟨#[58]⟩ : ByteArray).toList == s.toList) ws = (k : Int) := by unfold idxI; rw [hk]
    have hkl : k < ws.length := (List.findIdx?_eq_some_iff_getElem.1 hk).1
    have hk0 : decide ((k : Int) ≥ 0) = true := decide_eq_true (by omega)
    obtain ⟨dep, hdep⟩ : ∃ dep, ws.getD (k + 1) ⟨#[]⟩ = dep := ⟨_, rfl⟩
    obtain ⟨W, hW⟩ : ∃ W, ws.take k = W := ⟨_, rfl⟩
    have ho : outsM ws = if k + 2 = ws.length ∧ rightM (bL dep) = true then chkO W dep else none := by unfold outsM; rw [hk, ← hdep, ← hW]
    have hWl : (W.map sD).length = W.length := List.length_map ..
    have hWk : W.length = k := by rw [← hW, List.length_take]; omega
    have hWB : ∀ s ∈ W, s.size < 2 ^ 40 := fun s hs => hB s (List.mem_of_mem_take (by rw [hW]; exact hs))
    have hw2 : IntKind.i64.wrap ((ws.length : Int) - 2) = (ws.length : Int) - 2 := wrap_in _ (by omega) (by omega)
    have hw1 : IntKind.i64.wrap ((k : Int) + 1) = ((k + 1 : Nat) : Int) := wrap_succ k (by omega)
    by_cases h2 : k + 2 = ws.length
    · have hq : ((k : Int) == (ws.length : Int) - 2) = true := by rw [beq_iff_eq]; omega
      have hg := getD_map_lt sD ws (k + 1) (by omega)
      have hde : ws[k + 1]'(by omega) = dep := by rw [← hdep, List.getD_eq_getElem?_getD, List.getElem?_eq_getElem (by omega)]; rfl
      rw [sD, hde] at hg
      have hdB : dep.size < 2 ^ 40 := by rw [← hde]; exact hB _ (List.getElem_mem _)
      have hi0 : (0 : Int) ≤ ((k + 1 : Nat) : Int) := by omega
      have hi1 : ((k + 1 : Nat) : Int) < (ws.length : Int) := by omega
      have htW : (ws.map sD).take k = W.map sD := by rw [← hW, List.map_take]
      cases hr : rightM (bL dep) with
      | false =>
        have hn : outsM ws = none := by rw [ho]; exact if_neg fun h => by rw [hr] at h; cases h.2
        rw [hn] at hC
        refine Goes.seq ?_
        refine Goes.region [0] fun K hK => ?_; simp (maxSteps := 4000000) only [go_sem]
        refine hK _ _ ?_; clear hK K
        refine Goes.seq ?_
        refine Goes.region [0, 3] fun K hK => ?_; simp (maxSteps := 4000000) only [go_sem]
        refine ⟨_, Tryz.call89, (index_str ws ⟨#[58]⟩ _ hl).mono ?_⟩
        rintro e σ1 ⟨rfl, rfl⟩
        simp only [go_sem, hi]
        refine hK _ _ ?_; clear hK K
        refine Goes.seq ?_
        refine Goes.seq ?_
        refine Goes.region [0, 3, 4] fun K hK => ?_; simp (maxSteps := 4000000) only [go_sem, hi, hk0]
        refine hK _ _ ?_; clear hK K
        refine Goes.condT rfl ?_
        refine Goes.seq ?_
        refine Goes.region [0, 4] fun K hK => ?_; simp (maxSteps := 4000000) only [go_sem, hll, hw2, hq, hw1, hg, hi0, hi1]
        refine ⟨_, Tryz.call113, (right_calls dep hdB _).mono ?_⟩
        rintro e σ1 ⟨rfl, rfl⟩
        simp only [go_sem, hr]
        refine ⟨_, Tryz.call81, (need_calls false _).mono ?_⟩
        rintro e σ1 ⟨rfl, rfl⟩
        simp only [go_sem]
        exact Pan.of hC Tryz.func105 ⟨rfl, SLe.refl _⟩
      | true =>
        have hn : outsM ws = chkO W dep := by rw [ho]; exact if_pos ⟨h2, hr⟩
        rw [hn] at hC
        refine Goes.seq ?_
        refine Goes.region [0] fun K hK => ?_; simp (maxSteps := 4000000) only [go_sem]
        refine hK _ _ ?_; clear hK K
        refine Goes.seq ?_
        refine Goes.region [0, 3] fun K hK => ?_; simp (maxSteps := 4000000) only [go_sem]
        refine ⟨_, Tryz.call89, (index_str ws ⟨#[58]⟩ _ hl).mono ?_⟩
        rintro e σ1 ⟨rfl, rfl⟩
        simp only [go_sem, hi]
        refine hK _ _ ?_; clear hK K
        refine Goes.seq ?_
        refine Goes.seq ?_
        refine Goes.region [0, 3, 4] fun K hK => ?_; simp (maxSteps := 4000000) only [go_sem, hi, hk0]
        refine hK _ _ ?_; clear hK K
        refine Goes.condT rfl ?_
        refine Goes.seq ?_
        refine Goes.region [0, 4] fun K hK => ?_; simp (maxSteps := 4000000) only [go_sem, hll, hw2, hq, hw1, hg, hi0, hi1]
        refine ⟨_, Tryz.call113, (right_calls dep hdB _).mono ?_⟩
        rintro e σ1 ⟨rfl, rfl⟩
        simp only [go_sem, hr]
        refine ⟨_, Tryz.call81, (need_calls true _).mono ?_⟩
        rintro e σ1 ⟨rfl, rfl⟩
        simp only [go_sem]
        refine hK _ _ ?_; clear hK K
        refine Goes.draw [0, 4] [] [] [] [(0, true), (1, true), (2, true), (3, true), (4, true), (5, true), (6, true), (7, true), (8, true), (9, true)] (by kernel_rfl) (by decide) (by kernel_rfl) fun K hK => ?_; simp (maxSteps := 4000000) only [go_sem, hll, hw1, hg, hi0, hi1, htW]
        refine ⟨⟨by omega, by omega, fun y hy => (plain_sD _ y hy).1⟩, ?_⟩
        refine hK _ _ ?_; clear hK K
        refine Goes.seq ?_
        refine Goes.seq ?_
        refine Goes.region [0, 3] fun K hK => ?_; simp (maxSteps := 4000000) only [go_sem, hWl]
        refine hK _ _ ?_; clear hK K
        refine Goes.block ?_
        refine Goes.rebase [0, 3, 33, 34, 35] ?_
        simp only [go_sem]
        refine Goes.while (fun (i : Nat) env' σ'' => (i ≤ W.length ∧ ∀ j < i, okAt W j = true) ∧ env' = [(0, .slc (W.map sD)), (3, .v (.string dep)), (33, .slc (W.map sD)), (34, .v (.int .i64 (W.length : Int))), (35, .v (.int .i64 (i : Int)))] ∧ σ1 = σ'') (fun (i : Nat) => W.length - i) 0 ⟨⟨Nat.zero_le _, fun j hj => absurd hj (by omega)⟩, rfl, rfl⟩ ?_
        rintro i env' σ'' ⟨⟨hi2, hall⟩, rfl, rfl⟩ ih
        have ih1 := ih
        refine Goes.seq ?_
        refine Goes.region [0, 3, 33, 34, 35] fun K hK => ?_; simp (maxSteps := 4000000) only [go_sem]
        refine hK _ _ ?_; clear hK K
        refine Goes.seq ?_
        refine Goes.cond rfl (fun h36 => ?_) (fun h36 => ?_)
        · have hlt : i < W.length := by simpa using h36
          have hg := getD_map_lt sD W i hlt
          rw [sD] at hg
          have hi0 : (0 : Int) ≤ (i : Int) := by omega
          have hi1 : (i : Int) < (W.length : Int) := by omega
          have hsz := hWB _ (List.getElem_mem hlt)
          have hok : okAt W i = (rightM (bL W[i]) && !((W.take i).any fun s => W[i].toList == s.toList)) := by unfold okAt; rw [List.getElem?_eq_getElem hlt]
          have htk : (W.map sD).take i = (W.take i).map sD := (List.map_take ..).symm
          refine Goes.skip ?_
          refine Goes.seq ?_
          refine Goes.block ?_
          refine Goes.seq ?_
          refine Goes.region [0, 3, 33, 34, 35] fun K hK => ?_; simp (maxSteps := 4000000) only [go_sem, hWl, hg, hi0, hi1]
          refine hK _ _ ?_; clear hK K
          rcases (by cases rightM (bL W[i]) <;> cases ((W.take i).any fun s => W[i].toList == s.toList) <;> simp : rightM (bL W[i]) = false ∨ (rightM (bL W[i]) = true ∧ ((W.take i).any fun s => W[i].toList == s.toList) = true) ∨ (rightM (bL W[i]) = true ∧ ((W.take i).any fun s => W[i].toList == s.toList) = false)) with hr | ⟨hr, ha⟩ | ⟨hr, ha⟩
          · refine Goes.region [0, 3, 5, 6, 33, 34, 35] fun K hK => ?_; simp (maxSteps := 4000000) only [go_sem, htk]
            refine ⟨_, Tryz.call113, (right_calls _ hsz _).mono ?_⟩
            rintro e σ1 ⟨rfl, rfl⟩
            simp only [go_sem, hr]
            refine ⟨_, Tryz.call81, (need_calls false _).mono ?_⟩
            rintro e σ1 ⟨rfl, rfl⟩
            simp only [go_sem]
            refine Pan.of hC Tryz.func105 ?_
            rw [show chkO W (dep) = none from if_neg fun h => by have := h.1 i hlt; rw [hok, hr] at this; cases this]
            exact ⟨rfl, SLe.refl _⟩
          · refine Goes.region [0, 3, 5, 6, 33, 34, 35] fun K hK => ?_; simp (maxSteps := 4000000) only [go_sem, htk]
            refine ⟨_, Tryz.call113, (right_calls _ hsz _).mono ?_⟩
            rintro e σ1 ⟨rfl, rfl⟩
            simp only [go_sem, hr]
            refine ⟨⟨by omega, by omega, fun y hy => (plain_sD _ y hy).1⟩, ?_⟩
            simp only [htk]
            refine ⟨_, Tryz.call50, (contains_str (W.take i) _ _ (by rw [List.length_take]; omega)).mono ?_⟩
            rintro e σ1 ⟨rfl, rfl⟩
            simp only [go_sem, ha]
            refine ⟨_, Tryz.call81, (need_calls false _).mono ?_⟩
            rintro e σ1 ⟨rfl, rfl⟩
            simp only [go_sem]
            refine Pan.of hC Tryz.func105 ?_
            rw [show chkO W (dep) = none from if_neg fun h => by have := h.1 i hlt; rw [hok, hr, ha] at this; cases this]
            exact ⟨rfl, SLe.refl _⟩
          · refine Goes.region [0, 3, 5, 6, 33, 34, 35] fun K hK => ?_; simp (maxSteps := 4000000) only [go_sem, htk]
            refine ⟨_, Tryz.call113, (right_calls _ hsz _).mono ?_⟩
            rintro e σ1 ⟨rfl, rfl⟩
            simp only [go_sem, hr]
            refine ⟨⟨by omega, by omega, fun y hy => (plain_sD _ y hy).1⟩, ?_⟩
            simp only [htk]
            refine ⟨_, Tryz.call50, (contains_str (W.take i) _ _ (by rw [List.length_take]; omega)).mono ?_⟩
            rintro e σ1 ⟨rfl, rfl⟩
            simp only [go_sem, ha]
            refine ⟨_, Tryz.call81, (need_calls true _).mono ?_⟩
            rintro e σ1 ⟨rfl, rfl⟩
            simp only [go_sem]
            refine hK _ _ ?_; clear hK K
            refine Goes.inBlock ?_
            refine Goes.region [0, 3, 33, 34, 35] fun K hK => ?_; simp (maxSteps := 4000000) only [go_sem]
            refine hK _ _ ?_; clear hK K
            refine Goes.rebase [0, 3, 33, 34, 35] ?_
            simp only [go_sem]
            rw [wrap_succ i (by omega)]
            exact ih (i + 1) _ _ ⟨⟨by omega, fun j hj => (by rcases Nat.lt_or_ge j i with h | h; (· exact hall j h); rw [show j = i by omega, hok, hr, ha]; rfl)⟩, rfl, rfl⟩ (by omega)
        · have hie : i = W.length := by simp at h36; omega
          subst hie
          refine Goes.exit rfl ?_
          refine Goes.seq ?_
          by_cases hz : 0 < W.length
          · have hzd : decide ((W.length : Int) > 0) = true := decide_eq_true (by omega)
            refine Goes.region [0, 3] fun K hK => ?_; simp (maxSteps := 4000000) only [go_sem, hWl]
            simp only [hzd]
            refine ⟨_, Tryz.call81, (need_calls true _).mono ?_⟩
            rintro e σ1 ⟨rfl, rfl⟩
            simp only [go_sem]
            refine hK _ _ ?_; clear hK K
            refine Goes.seq ?_
            refine Goes.region [0, 3] fun K hK => ?_; simp (maxSteps := 4000000) only [go_sem]
            refine hK _ _ ?_; clear hK K
            refine Goes.ret hC Tryz.func105 (by simp [go_sem]) ?_
            simp only [go_sem]
            rw [show chkO W (dep) = some (W, dep) from if_pos ⟨hall, hz⟩]
            exact ⟨rfl, rfl⟩
          · have hzd : decide ((W.length : Int) > 0) = false := decide_eq_false (by omega)
            refine Goes.region [0, 3] fun K hK => ?_; simp (maxSteps := 4000000) only [go_sem, hWl]
            simp only [hzd]
            refine ⟨_, Tryz.call81, (need_calls false _).mono ?_⟩
            rintro e σ1 ⟨rfl, rfl⟩
            simp only [go_sem]
            refine Pan.of hC Tryz.func105 ?_
            rw [show chkO W (dep) = none from if_neg fun h => hz h.2]
            exact ⟨rfl, SLe.refl _⟩
    · have hq : ((k : Int) == (ws.length : Int) - 2) = false := by rw [beq_eq_false_iff_ne]; omega
      have hn : outsM ws = none := by rw [ho]; exact if_neg fun h => h2 h.1
      rw [hn] at hC
      refine Goes.seq ?_
      refine Goes.region [0] fun K hK => ?_; simp (maxSteps := 4000000) only [go_sem]
      refine hK _ _ ?_; clear hK K
      refine Goes.seq ?_
      refine Goes.region [0, 3] fun K hK => ?_; simp (maxSteps := 4000000) only [go_sem]
      refine ⟨_, Tryz.call89, (index_str ws ⟨#[58]⟩ _ hl).mono ?_⟩
      rintro e σ1 ⟨rfl, rfl⟩
      simp only [go_sem, hi]
      refine hK _ _ ?_; clear hK K
      refine Goes.seq ?_
      refine Goes.seq ?_
      refine Goes.region [0, 3, 4] fun K hK => ?_; simp (maxSteps := 4000000) only [go_sem, hi, hk0]
      refine hK _ _ ?_; clear hK K
      refine Goes.condT rfl ?_
      refine Goes.seq ?_
      refine Goes.region [0, 4] fun K hK => ?_; simp (maxSteps := 4000000) only [go_sem, hll, hw2, hq]
      refine ⟨_, Tryz.call81, (need_calls false _).mono ?_⟩
      rintro e σ1 ⟨rfl, rfl⟩
      simp only [go_sem]
      exact Pan.of hC Tryz.func105 ⟨rfl, SLe.refl _⟩
end Go.Ab.S16
set_option linter.unusedSimpArgs false
set_option linter.unusedVariables false
set_option linter.constructorNameAsVariable false
namespace Go.Ab.S16
open Go Go.Proofs Go.RowKit
theorem fieldsS_calls (s : ByteArray) (hs : s.size ≤ 4294967296) (σ : Store) : ACalls Tryz.prog 103 [.v (.string s), .clo (.func 104) [] []] σ (fun e σ' => e = .ret (.slc ((wordsM s).map sD)) ∧ σ' = σ) :=
  ACalls.pubOwn ((fields_calls s hs []).mono fun e σ' ⟨o, hg, he, hs⟩ => ⟨o, hg, he, by rw [hs]⟩) σ
def isFunc : Option TypeDesc → Bool
  | some (.func _ _ _) => true
  | _ => false
structure Shp where
  verb : ByteArray
  args : List ByteArray
  once : Bool
  outs : List ByteArray
  dep : ByteArray
def Shp.d (s : Shp) : D := .tup [.v (.string s.verb), .slc (s.args.map sD), .v (.bool s.once), .slc (s.outs.map sD), .v (.string s.dep)]
theorem equalIn_ff {P : Program} {T : TypeId} (h : isFunc (P.underlying T) = true) (d : Nat) : purely P (Op.equalIn (d + 1) T .nilFunc .nilFunc) = some true := by
  have : ∃ a b c, P.underlying T = some (.func a b c) := by
    unfold isFunc at h
    split at h
    · exact ⟨_, _, _, by assumption⟩
    · cases h
  obtain ⟨a, b, c, hu⟩ := this
  simp only [Op.equalIn, purely_bind, purely_underlying, hu, Option.bind_some, purely_pure]
theorem equal_ff {P : Program} {T : TypeId} (h : isFunc (P.underlying T) = true) : purely P (Op.equal T .nilFunc .nilFunc) = some true := equalIn_ff h 9999
theorem bin_ff (P : Program) (T : TypeId) (x y : Operand) (h : isFunc (P.underlying T) = true) : aBin P .neq T x y (.v .nilFunc) (.v .nilFunc) = .val True (.v (.bool false)) := by
  simp [aBin, ifcNil, aBin0, toV, scal, eqGuard, binOp, okV, ofV, purely_pure, purely_bind, purely_map, equal_ff h]
theorem bin_ff131 (x y : Operand) : aBin Tryz.prog .neq 131 x y (.v .nilFunc) (.v .nilFunc) = .val True (.v (.bool false)) := bin_ff _ _ _ _ (by kernel_rfl)
theorem verb_some (verb : List UInt8) (hv : isVerb verb = true) : ∃ g, mfind (.string (lB verb)) verbsM = some (.clo (.func g) [] []) := by
  have key : verb = [99, 97, 116] ∨ verb = [114, 101, 118] ∨ verb = [115, 117, 109] ∨ verb = [112, 117, 116] ∨ verb = [105, 110, 99] ∨ verb = [102, 97, 105, 108] := by simpa [isVerb] using hv
  rcases key with rfl | rfl | rfl | rfl | rfl | rfl
  · exact ⟨_, (by kernel_rfl : mfind (.string (lB [99, 97, 116])) verbsM = some (.clo (.func 106) [] []))⟩
  · exact ⟨_, (by kernel_rfl : mfind (.string (lB [114, 101, 118])) verbsM = some (.clo (.func 107) [] []))⟩
  · exact ⟨_, (by kernel_rfl : mfind (.string (lB [115, 117, 109])) verbsM = some (.clo (.func 108) [] []))⟩
  · exact ⟨_, (by kernel_rfl : mfind (.string (lB [112, 117, 116])) verbsM = some (.clo (.func 109) [] []))⟩
  · exact ⟨_, (by kernel_rfl : mfind (.string (lB [105, 110, 99])) verbsM = some (.clo (.func 110) [] []))⟩
  · exact ⟨_, (by kernel_rfl : mfind (.string (lB [102, 97, 105, 108])) verbsM = some (.clo (.func 111) [] []))⟩
theorem verbs_like (s : ByteArray) : keyLike .string (.string s) (.string s) = true ∧ ∀ e ∈ verbsM, keyLike .string (.string s) e.1 = true := ⟨rfl, allS_like verbsM_all s⟩
def onceB (ws : List ByteArray) : Bool := match ws with | w :: _ => w.toList == (⟨#[111, 110, 99, 101]⟩ : ByteArray).toList | [] => false
/-- What the words behind once tell. -/
def shapeW (once : Bool) (ws : List ByteArray) : Option Shp :=
  match ws.findIdx? (fun s => (⟨#[62]⟩ : ByteArray).toList == s.toList) with
  | some (k + 1) => if isVerb (bL (ws.getD 0 ⟨#[]⟩)) = true then
      match outsM (ws.drop (k + 2)) with
      | some (outs, dep) => if (!(dep.toList == (⟨#[]⟩ : ByteArray).toList)) = ((ws.getD 0 ⟨#[]⟩).toList == (⟨#[105, 110, 99]⟩ : ByteArray).toList) then some ⟨ws.getD 0 ⟨#[]⟩, (ws.take (k + 1)).drop 1, once, outs, dep⟩ else none
      | none => none
    else none
  | _ => none
def shapeM (s : ByteArray) : Option Shp := if onceB (wordsM s) = true then shapeW true ((wordsM s).drop 1) else shapeW false (wordsM s)
set_option maxHeartbeats 4000000 in
theorem shape_calls (s : ByteArray) (hs : s.size ≤ 4294967296) (hl : (wordsM s).length < 2 ^ 40) (hB : ∀ w ∈ wordsM s, w.size < 2 ^ 40) (σ : Store) :
    ACalls Tryz.prog 79 [.v (.string s)] σ (AR (shapeM s) (fun x e σ' => e = .ret x.d ∧ σ' = σ) σ) := by
  have hll : ((wordsM s).map sD).length = (wordsM s).length := List.length_map ..
  refine ACalls.of_body Tryz.func79 rfl Tryz.ntmps79 (by simp) fun C hC => ?_
  refine Goes.seq ?_
  refine Goes.region [0] fun K hK => ?_; simp (maxSteps := 4000000) only [go_sem]
  refine hK _ _ ?_; clear hK K
  refine Goes.seq ?_
  refine Goes.region [0, 4] fun K hK => ?_; simp (maxSteps := 4000000) only [go_sem]
  refine ⟨_, Tryz.call103, (fieldsS_calls s hs _).mono ?_⟩
  rintro e σ1 ⟨rfl, rfl⟩
  simp only [go_sem]
  refine hK _ _ ?_; clear hK K
  refine Goes.seq ?_
  refine Goes.seq ?_
  rcases hw : wordsM s with _ | ⟨w, ws⟩
  · have hsh : shapeM s = none := by unfold shapeM; rw [hw]; rfl
    refine Goes.region [4, 7] fun K hK => ?_; simp (maxSteps := 4000000) only [go_sem]
    refine hK _ _ ?_; clear hK K
    refine Goes.condF rfl ?_
    refine Goes.skip ?_
    refine Goes.seq ?_
    refine Goes.region [4, 7] fun K hK => ?_; simp (maxSteps := 4000000) only [go_sem]
    refine ⟨_, Tryz.call89, (index_str [] ⟨#[62]⟩ _ (by simp)).mono ?_⟩
    rintro e σ1 ⟨rfl, rfl⟩
    simp only [go_sem]
    refine hK _ _ ?_; clear hK K
    refine Goes.seq ?_
    refine Goes.draw [4, 7, 8] [] [] [] [(0, true), (1, true), (2, true), (4, true), (5, true), (6, true), (3, false), (7, true), (8, true), (9, true), (10, false)] (by kernel_rfl) (by decide) (by kernel_rfl) fun K hK => ?_; simp (maxSteps := 4000000) only [go_sem]
    refine ⟨_, Tryz.call81, (need_calls false _).mono ?_⟩
    rintro e σ1 ⟨rfl, rfl⟩
    simp only [go_sem]
    refine Pan.of hC Tryz.func79 ?_
    rw [hsh]
    exact ⟨rfl, SLe.refl _⟩
  · have hln : decide (((ws.map sD).length + 1 : Nat) > (0 : Int)) = true := decide_eq_true (by omega)
    have hsw : (sD w).cells = [.v (.string w)] := rfl
    refine Goes.region [4, 7] fun K hK => ?_; simp (maxSteps := 4000000) only [go_sem, List.map_cons, List.length_cons, hln, hsw]
    refine ⟨by omega, ?_⟩
    refine hK _ _ ?_; clear hK K
    refine Goes.join (fun env' σ' => ∃ once ws, env' = [(4, .v (.bool once)), (7, .slc (ws.map sD))] ∧ σ' = σ1 ∧ shapeM s = shapeW once ws ∧ ws.length < 2 ^ 40 ∧ ∀ w ∈ ws, w.size < 2 ^ 40) (fun k1 hk1 => ?_) ?_
    · refine Goes.cond rfl (fun h19 => ?_) (fun h19 => ?_)
      · refine Goes.draw [7] [] [] [] [(0, true), (1, true), (2, true), (3, true)] (by kernel_rfl) (by decide) (by kernel_rfl) fun K hK => ?_; simp (maxSteps := 4000000) only [go_sem]
        refine ⟨⟨by omega, by omega, fun y hy => (plain_sD (w :: ws) y (List.mem_cons.2 hy)).1⟩, ?_⟩
        refine hK _ _ ?_; clear hK K
        refine Goes.rebase [4, 7] ?_
        simp only [go_sem]
        have ho : onceB (w :: ws) = true := h19
        refine hk1 _ _ ⟨true, ws, ?_, rfl, ?_, ?_, fun x hx => hB x (by rw [hw]; simp [hx])⟩
        · rw [List.take_of_length_le (by simp)]
        · unfold shapeM; rw [hw, if_pos ho]; rfl
        · rw [hw] at hl; simp at hl; omega
      · refine Goes.skip ?_
        refine Goes.rebase [4, 7] ?_
        simp only [go_sem]
        have ho : ¬ onceB (w :: ws) = true := by
          intro h
          have h2 : (w.toList == (⟨#[111, 110, 99, 101]⟩ : ByteArray).toList) = false := h19
          change (w.toList == (⟨#[111, 110, 99, 101]⟩ : ByteArray).toList) = true at h
          rw [h2] at h; cases h
        refine hk1 _ _ ⟨false, w :: ws, rfl, rfl, ?_, ?_, fun x hx => hB x (by rw [hw]; exact hx)⟩
        · unfold shapeM; rw [hw, if_neg ho]
        · rw [hw] at hl; exact hl
    rintro env' σ' ⟨once, W, rfl, rfl, hsh, hWl, hWB⟩
    refine Goes.seq ?_
    have hWll : (W.map sD).length = W.length := List.length_map ..
    refine Goes.region [4, 7] fun K hK => ?_; simp (maxSteps := 4000000) only [go_sem]
    refine ⟨_, Tryz.call89, (index_str W ⟨#[62]⟩ _ hWl).mono ?_⟩
    rintro e σ1 ⟨rfl, rfl⟩
    simp only [go_sem]
    refine hK _ _ ?_; clear hK K
    refine Goes.seq ?_
    rcases (show (W.findIdx? (fun s => (⟨#[62]⟩ : ByteArray).toList == s.toList) = none) ∨ (W.findIdx? (fun s => (⟨#[62]⟩ : ByteArray).toList == s.toList) = some 0) ∨ (∃ k, W.findIdx? (fun s => (⟨#[62]⟩ : ByteArray).toList == s.toList) = some (k + 1) ∧ isVerb (bL (W.getD 0 ⟨#[]⟩)) = false) ∨ (∃ k, W.findIdx? (fun s => (⟨#[62]⟩ : ByteArray).toList == s.toList) = some (k + 1) ∧ isVerb (bL (W.getD 0 ⟨#[]⟩)) = true) from (by
      cases hk : W.findIdx? (fun s => (⟨#[62]⟩ : ByteArray).toList == s.toList) with
      | none => exact .inl rfl
      | some k =>
        cases k with
        | zero => exact .inr (.inl rfl)
        | succ k =>
          cases hv : isVerb (bL (W.getD 0 ⟨#[]⟩)) with
          | false => exact .inr (.inr (.inl ⟨k, rfl, rfl⟩))
          | true => exact .inr (.inr (.inr ⟨k, rfl, rfl⟩)))) with hk | hk | ⟨k, hk, hv⟩ | ⟨k, hk, hv⟩
    · have hi : idxI (fun s : ByteArray => (⟨#[62]⟩ : ByteArray).toList == s.toList) W = -1 := by unfold idxI; rw [hk]
      have hsn : shapeM s = none := by rw [hsh]; unfold shapeW; rw [hk]
      refine Goes.draw [4, 7, 8] [] [] [] [(0, true), (1, true), (2, true), (4, true), (5, true), (6, true), (3, false), (7, true), (8, true), (9, true), (10, false)] (by kernel_rfl) (by decide) (by kernel_rfl) fun K hK => ?_; simp (maxSteps := 4000000) only [go_sem, hi]
      refine ⟨_, Tryz.call81, (need_calls false _).mono ?_⟩
      rintro e σ1 ⟨rfl, rfl⟩
      simp only [go_sem]
      refine Pan.of hC Tryz.func79 ?_
      rw [hsn]
      exact ⟨rfl, SLe.refl _⟩
    · have hi : idxI (fun s : ByteArray => (⟨#[62]⟩ : ByteArray).toList == s.toList) W = 0 := by unfold idxI; rw [hk]; rfl
      have hsn : shapeM s = none := by rw [hsh]; unfold shapeW; rw [hk]
      refine Goes.draw [4, 7, 8] [] [] [] [(0, true), (1, true), (2, true), (4, true), (5, true), (6, true), (3, false), (7, true), (8, true), (9, true), (10, false)] (by kernel_rfl) (by decide) (by kernel_rfl) fun K hK => ?_; simp (maxSteps := 4000000) only [go_sem, hi]
      refine ⟨_, Tryz.call81, (need_calls false _).mono ?_⟩
      rintro e σ1 ⟨rfl, rfl⟩
      simp only [go_sem]
      refine Pan.of hC Tryz.func79 ?_
      rw [hsn]
      exact ⟨rfl, SLe.refl _⟩
    · have hi : idxI (fun s : ByteArray => (⟨#[62]⟩ : ByteArray).toList == s.toList) W = ((k + 1 : Nat) : Int) := by unfold idxI; rw [hk]
      have hkl : k + 1 < W.length := (List.findIdx?_eq_some_iff_getElem.1 hk).1
      have hk1 : decide (((k + 1 : Nat) : Int) ≥ 1) = true := decide_eq_true (by omega)
      have hsn : shapeM s = none := by rw [hsh]; unfold shapeW; rw [hk]; simp only [hv]; rfl
      have hg := getD_map_lt sD W 0 (by omega)
      have hi0 : (0 : Int) < (W.length : Int) := by omega
      have hv0 : W[0]'(by omega) = W.getD 0 ⟨#[]⟩ := by rw [List.getD_eq_getElem?_getD, List.getElem?_eq_getElem (by omega)]; rfl
      rw [sD, hv0] at hg
      have hmf := verb_none (bL (W.getD 0 ⟨#[]⟩)) hv
      rw [lB_bL] at hmf
      refine Goes.draw [4, 7, 8] [] [] [] [(0, true), (1, true), (2, true), (4, true), (5, true), (6, true), (3, false), (7, false), (8, true), (9, true), (10, false)] (by kernel_rfl) (by decide) (by kernel_rfl) fun K hK => ?_; simp (maxSteps := 4000000) only [go_sem, hi, hk1, hWll, hg, hi0, hmf]
      refine ⟨_, Tryz.call80, (verbs_calls _).mono ?_⟩
      rintro e σ2 ⟨db, hdb, rfl, rfl⟩
      simp only [go_sem, hWll, hg, hi0, hmf, bin_ff131]
      refine ⟨verbs_like _, ?_⟩
      refine ⟨_, Tryz.call81, (need_calls false _).mono ?_⟩
      rintro e σ1 ⟨rfl, rfl⟩
      simp only [go_sem]
      refine Pan.of hC Tryz.func79 ?_
      rw [hsn]
      exact ⟨rfl, sle_push (SLe.refl _) hdb⟩
    · have hi : idxI (fun s : ByteArray => (⟨#[62]⟩ : ByteArray).toList == s.toList) W = ((k + 1 : Nat) : Int) := by unfold idxI; rw [hk]
      have hkl : k + 1 < W.length := (List.findIdx?_eq_some_iff_getElem.1 hk).1
      have hk1 : decide (((k + 1 : Nat) : Int) ≥ 1) = true := decide_eq_true (by omega)
      have hg := getD_map_lt sD W 0 (by omega)
      have hi0 : (0 : Int) < (W.length : Int) := by omega
      have hv0 : W[0]'(by omega) = W.getD 0 ⟨#[]⟩ := by rw [List.getD_eq_getElem?_getD, List.getElem?_eq_getElem (by omega)]; rfl
      rw [sD, hv0] at hg
      obtain ⟨g, hmf⟩ := verb_some (bL (W.getD 0 ⟨#[]⟩)) hv
      rw [lB_bL] at hmf
      refine Goes.draw [4, 7, 8] [] [] [] [(0, true), (1, true), (2, true), (4, true), (5, true), (6, true), (3, false), (7, false), (8, true), (9, true), (10, false)] (by kernel_rfl) (by decide) (by kernel_rfl) fun K hK => ?_; simp (maxSteps := 4000000) only [go_sem, hi, hk1, hWll, hg, hi0, hmf]
      refine ⟨_, Tryz.call80, (verbs_calls _).mono ?_⟩
      rintro e σ2 ⟨db, hdb, rfl, rfl⟩
      simp only [go_sem, hWll, hg, hi0, hmf]
      refine ⟨verbs_like _, ?_⟩
      refine ⟨_, Tryz.call81, (need_calls true _).mono ?_⟩
      rintro e σ1 ⟨rfl, rfl⟩
      simp only [go_sem]
      refine hK _ _ ?_; clear hK K
      refine Goes.le (ELe.refl _) (sle_push (SLe.refl _) hdb) ?_
      have hw2 : IntKind.i64.wrap (((k + 1 : Nat) : Int) + 1) = ((k + 2 : Nat) : Int) := wrap_succ (k + 1) (by omega)
      have htd : List.drop (k + 2) (W.map sD) = (W.drop (k + 2)).map sD := (List.map_drop ..).symm
      have htt : List.take W.length (W.map sD) = W.map sD := List.take_of_length_le (by simp)
      have hou := fun σ => outputs_calls (W.drop (k + 2)) (by rw [List.length_drop]; omega) (fun x hx => hWB x (List.mem_of_mem_drop hx)) σ
      refine Goes.seq ?_
      rcases ho : outsM (W.drop (k + 2)) with _ | ⟨outs, dep⟩
      · rw [ho] at hou
        refine Goes.region [4, 7, 8] fun K hK => ?_; simp (maxSteps := 4000000) only [go_sem, hw2, htd, htt, hWll]
        refine ⟨⟨by omega, by omega, by omega, fun y hy => (plain_sD W y hy).1⟩, ?_⟩
        refine ⟨_, Tryz.call105, (hou _).mono ?_⟩
        rintro e σ3 ⟨rfl, hs3⟩
        simp only [go_sem]
        refine Pan.of hC Tryz.func79 ?_
        rw [show shapeM s = none by rw [hsh]; unfold shapeW; rw [hk]; simp only [hv, ho, if_true]]
        exact ⟨rfl, hs3⟩
      · rw [ho] at hou
        refine Goes.region [4, 7, 8] fun K hK => ?_; simp (maxSteps := 4000000) only [go_sem, hw2, htd, htt, hWll]
        refine ⟨⟨by omega, by omega, by omega, fun y hy => (plain_sD W y hy).1⟩, ?_⟩
        refine ⟨_, Tryz.call105, (hou _).mono ?_⟩
        rintro e σ1 ⟨rfl, rfl⟩
        simp only [go_sem]
        refine hK _ _ ?_; clear hK K
        refine Goes.seq ?_
        by_cases hq : (!(dep.toList == (⟨#[]⟩ : ByteArray).toList)) = ((W.getD 0 ⟨#[]⟩).toList == (⟨#[105, 110, 99]⟩ : ByteArray).toList)
        · refine Goes.region [4, 5, 6, 7, 8] fun K hK => ?_; simp (maxSteps := 4000000) only [go_sem, hWll, hg, hi0]
          simp only [hq, BEq.rfl]
          refine ⟨_, Tryz.call81, (need_calls true _).mono ?_⟩
          rintro e σ1 ⟨rfl, rfl⟩
          simp only [go_sem]
          refine hK _ _ ?_; clear hK K
          refine Goes.seq ?_
          refine Goes.draw [4, 5, 6, 7, 8] [] [] [] [(0, true), (1, true), (2, true), (3, true), (4, true), (5, true), (6, true), (7, true), (8, true), (9, true), (10, true), (11, true), (12, true), (13, true)] (by kernel_rfl) (by decide) (by kernel_rfl) fun K hK => ?_; simp (maxSteps := 4000000) only [go_sem, hWll, hg, hi0]
          have htr : List.drop 1 (List.take (k + 1) (W.map sD)) = ((W.take (k + 1)).drop 1).map sD := by rw [List.map_drop, List.map_take]
          refine ⟨⟨by omega, by omega, fun y hy => (plain_sD W y hy).1⟩, ?_⟩
          simp only [htr]
          refine hK _ _ ?_; clear hK K
          refine Goes.ret hC Tryz.func79 (by simp [go_sem]) ?_
          simp only [go_sem]
          rw [show shapeM s = some ⟨W.getD 0 ⟨#[]⟩, (W.take (k + 1)).drop 1, once, outs, dep⟩ by rw [hsh]; unfold shapeW; rw [hk]; simp only [hv, ho, if_true]; exact if_pos hq]
          exact ⟨rfl, rfl⟩
        · refine Goes.region [4, 5, 6, 7, 8] fun K hK => ?_; simp (maxSteps := 4000000) only [go_sem, hWll, hg, hi0]
          have hq2 : ((!(dep.toList == (⟨#[]⟩ : ByteArray).toList)) == ((W.getD 0 ⟨#[]⟩).toList == (⟨#[105, 110, 99]⟩ : ByteArray).toList)) = false := by rw [beq_eq_false_iff_ne]; exact hq
          simp only [hq2]
          refine ⟨_, Tryz.call81, (need_calls false _).mono ?_⟩
          rintro e σ1 ⟨rfl, rfl⟩
          simp only [go_sem]
          refine Pan.of hC Tryz.func79 ?_
          rw [show shapeM s = none by rw [hsh]; unfold shapeW; rw [hk]; simp only [hv, ho, if_true]; exact if_neg hq]
          exact ⟨rfl, SLe.refl _⟩
end Go.Ab.S16
set_option linter.unusedSimpArgs false
set_option linter.unusedVariables false
set_option linter.constructorNameAsVariable false
namespace Go.Ab.S16
open Go Go.Proofs
theorem guardD_pan (b2 : Nat) (σ : Store) (hb : sget b2 σ = some (.arr 1 [.v (.int .i64 0)])) {R : AMode → Store → Prop}
    (hR : ∀ σ', SLe (sset b2 (.arr 1 [.v (.int .i64 13)]) σ) σ' → R (.pan failD true) σ') : ADCalls Tryz.prog 102 [.ptr b2 1 0 0] (.pan failD false) σ R := by
  unfold failD at hR ⊢
  refine ADCalls.of_body Tryz.func102 rfl Tryz.ntmps102 (by simp) fun C hC => ?_
  refine Goes.seq ?_
  refine Goes.recoverPan (k1 := 4) (k2 := 1) hC rfl rfl rfl rfl rfl rfl (by simp [dstB, lkFree]) (by simp [dstB, lkFree]) fun C hC => ?_
  simp only [go_sem]
  repeat' (first | refine Goes.seq ?_ | refine Goes.skip ?_ | refine Goes.inBlock ?_ | refine Goes.block ?_ | refine Goes.exit rfl ?_ | (refine Goes.region [0, 1] fun K hK => ?_; simp (maxSteps := 4000000) only [go_sem]; refine hK _ _ ?_; clear hK K))
  refine Goes.condT rfl ?_
  repeat refine Goes.seq ?_
  refine Goes.region [0, 1] fun K hK => ?_; simp (maxSteps := 4000000) only [go_sem, hb]
  intro bw hbw
  refine hK _ _ ?_; clear hK K
  repeat refine Goes.seq ?_
  repeat' (first | refine Goes.seq ?_ | refine Goes.skip ?_ | refine Goes.inBlock ?_ | refine Goes.block ?_ | refine Goes.exit rfl ?_ | (refine Goes.region [0, 1, 2, 3] fun K hK => ?_; simp (maxSteps := 4000000) only [go_sem]; refine hK _ _ ?_; clear hK K))
  refine Goes.condF rfl ?_
  refine Goes.skip ?_
  have hne : b2 ≠ bw := fun e => by subst e; rw [hbw] at hb; cases hb
  refine Goes.region [0, 2] fun K hK => ?_; simp (maxSteps := 4000000) only [go_sem, hb, hne]
  refine hK _ _ ?_; clear hK K
  exact Goes.doneD hC Tryz.func102 rfl (hR _ (sle_push (SLe.refl _) (by rw [sget_sset, if_neg hne.symm]; exact hbw)))
theorem guardD_ret (b2 : Nat) (σ : Store) {R : AMode → Store → Prop} (hR : R .ret σ) : ADCalls Tryz.prog 102 [.ptr b2 1 0 0] .ret σ R := by
  refine ADCalls.of_body Tryz.func102 rfl Tryz.ntmps102 (by simp) fun C hC => ?_
  refine Goes.seq ?_
  refine Goes.recoverRet (k1 := 4) (k2 := 1) hC rfl rfl rfl rfl rfl rfl (by simp [dstB, lkFree]) (by simp [dstB, lkFree]) ?_
  simp only [go_sem]
  repeat' (first | refine Goes.seq ?_ | refine Goes.skip ?_ | refine Goes.inBlock ?_ | refine Goes.block ?_ | refine Goes.exit rfl ?_ | (refine Goes.region [0, 1] fun K hK => ?_; simp (maxSteps := 4000000) only [go_sem]; refine hK _ _ ?_; clear hK K))
  refine Goes.condF rfl ?_
  repeat' (first | refine Goes.seq ?_ | refine Goes.skip ?_ | refine Goes.inBlock ?_ | refine Goes.block ?_ | refine Goes.exit rfl ?_ | (refine Goes.region [0] fun K hK => ?_; simp (maxSteps := 4000000) only [go_sem]; refine hK _ _ ?_; clear hK K))
  exact Goes.doneD hC Tryz.func102 rfl hR
theorem guarded_calls (g : FuncId) (caps : List D) (σ : Store) {Rg R : AEnd → Store → Prop} (hcall : ∀ args w, (callFunc g args).run Tryz.prog w = .ok (.enter g args) w) (hg : ACalls Tryz.prog g caps σ Rg)
    (hR : ∀ e σ', Rg e σ' → (e = .ret (.tup []) ∧ R (.ret (.v (.int .i64 0))) σ') ∨ (e = .panic failD ∧ R (.ret (.v (.int .i64 13))) σ')) :
    ACalls Tryz.prog 77 [.clo (.func g) [] caps] σ R := by
  refine ACalls.forget (R := fun e σ'' => ∃ σ', SLe σ' σ'' ∧ R e σ') ?_ fun e σ' h => h
  refine ACalls.of_body Tryz.func77 rfl Tryz.ntmps77 (by simp) fun C hC => ?_
  refine Goes.seq ?_
  refine Goes.region [0] fun K hK => ?_; simp (maxSteps := 4000000) only [go_sem]
  intro b2 hb2
  refine hK _ _ ?_; clear hK K
  refine Goes.seq ?_
  refine Goes.defer (L := [(2, .ptr b2 1 0 0)]) (k1 := 3) hC Tryz.call102 rfl rfl rfl rfl rfl rfl (by decide) rfl rfl (by simp [eget]) (by simp) fun C hC => ?_
  have hfr := hg.frame (σ := (b2, .arr 1 [.v (.int .i64 0)]) :: σ) (ρ := [(b2, .arr 1 [.v (.int .i64 0)])]) (sle_push (SLe.refl _) hb2) (SLe.cons (sget_self ..) (SLe.nil _)) (Apart.cons hb2 (Apart.nil _))
  refine Goes.seq ?_
  refine Goes.region [0, 2] fun K hK => ?_; simp (maxSteps := 4000000) only [go_sem]
  refine ⟨g, hcall, ?_⟩
  simp only [go_sem]
  refine hfr.mono ?_
  rintro e σ2 ⟨σ1, hRg, hap, rfl⟩
  have hb1 : sget b2 σ1 = none := hap b2 (by simp [sget])
  have hb3 : sget b2 (σ1 ++ [(b2, .arr 1 [.v (.int .i64 0)])]) = some (.arr 1 [.v (.int .i64 0)]) := by rw [sget_append_none hb1, sget_self]
  have hsl1 : ∀ x, SLe σ1 (sset b2 x (σ1 ++ [(b2, .arr 1 [.v (.int .i64 0)])])) := fun x b o hb => by
    have hne : b ≠ b2 := fun e => by subst e; rw [hb1] at hb; cases hb
    rw [sget_sset, if_neg hne]; exact sget_append_some hb
  have hrow : ∀ n, sget b2 (sset b2 (.arr 1 [.v (.int .i64 n)]) (σ1 ++ [(b2, .arr 1 [.v (.int .i64 0)])])) = some (.arr 1 [.v (.int .i64 n)]) := fun n => by
    rw [sget_sset, if_pos rfl, hb3]; rfl
  rcases hR e σ1 hRg with ⟨rfl, hret⟩ | ⟨rfl, hret⟩
  · simp only [go_sem]
    refine hK _ _ ?_; clear hK K
    refine Goes.seq ?_
    refine Goes.region [2] fun K hK => ?_; simp (maxSteps := 4000000) only [go_sem, hb3]
    refine hK _ _ ?_; clear hK K
    refine Goes.retL hC Tryz.func77 (guardD_ret b2 _ ?_)
    refine ⟨?_, ?_⟩
    · simp only [go_sem, hrow]
      simp [resPre, go_sem, hrow]
    · refine ⟨σ1, hsl1 _, ?_⟩
      simp only [go_sem, hrow]
      exact hret
  · simp only [go_sem]
    refine Pan.ofL hC Tryz.func77 (guardD_pan b2 _ hb3 fun σ' hle => ?_)
    have hrow2 := hle b2 _ (hrow 13)
    refine ⟨?_, ?_⟩
    · simp [resPre, go_sem, hrow2]
    · refine ⟨σ1, (hsl1 _).trans hle, ?_⟩
      simp only [go_sem, hrow2]
      exact hret
end Go.Ab.S16
set_option linter.unusedSimpArgs false
set_option linter.unusedVariables false
set_option linter.constructorNameAsVariable false
namespace Go.Ab.S16
open Go Go.Proofs Go.RowKit
/-- What a command of a shape makes. -/
def cookR (x : Shp) (decl : List ByteArray) (files : List XFile) : Option XDish :=
  match runV x.args decl files (bL x.verb) with
  | none => none
  | some (b, found) => if b.length ≤ 65536 then some ⟨x.outs.map fun n => ⟨n, b⟩, x.once, x.dep, if (!(x.dep.toList == (⟨#[]⟩ : ByteArray).toList)) = true then lB (printT (x.outs.getD 0 ⟨#[]⟩) found ++ [10]) else ⟨#[]⟩⟩ else none
/-- What a command makes. -/
def cookM (cmd : ByteArray) (decl : List ByteArray) (files : List XFile) : Option XDish :=
  match shapeM cmd with
  | none => none
  | some x => cookR x decl files
/-- The cells that the closure of Cook holds. -/
def cS (bA bB bC bD : Nat) (cmd : ByteArray) (decl : List ByteArray) (files : List XFile) (v : D) : Store := [(bD, .arr 4 [v]), (bC, .arr 1 [.slc (files.map XFile.d)]), (bB, .arr 1 [.slc (decl.map sD)]), (bA, .arr 1 [.v (.string cmd)])]
structure CN (bA bB bC bD : Nat) : Prop where
  ab : bA ≠ bB
  ac : bA ≠ bC
  ad : bA ≠ bD
  bc : bB ≠ bC
  bd : bB ≠ bD
  cd : bC ≠ bD
section
variable {bA bB bC bD : Nat} {cmd : ByteArray} {decl : List ByteArray} {files : List XFile} {v w : D}
theorem cS_d : sget bD (cS bA bB bC bD cmd decl files v) = some (.arr 4 [v]) := sget_self ..
theorem cS_c (h : CN bA bB bC bD) : sget bC (cS bA bB bC bD cmd decl files v) = some (.arr 1 [.slc (files.map XFile.d)]) := by
  unfold cS
  rw [sget_cons, if_neg h.cd, sget_self]
theorem cS_b (h : CN bA bB bC bD) : sget bB (cS bA bB bC bD cmd decl files v) = some (.arr 1 [.slc (decl.map sD)]) := by
  unfold cS
  rw [sget_cons, if_neg h.bd, sget_cons, if_neg h.bc, sget_self]
theorem cS_a (h : CN bA bB bC bD) : sget bA (cS bA bB bC bD cmd decl files v) = some (.arr 1 [.v (.string cmd)]) := by
  unfold cS
  rw [sget_cons, if_neg h.ad, sget_cons, if_neg h.ac, sget_cons, if_neg h.ab, sget_self]
theorem cS_sd : sset bD (.arr 4 [w]) (cS bA bB bC bD cmd decl files v) = cS bA bB bC bD cmd decl files w := by
  unfold cS
  rw [sset_self]
theorem cS_dom {b : Nat} (h : sget b (cS bA bB bC bD cmd decl files v) = none) : sget b (cS bA bB bC bD cmd decl files w) = none := by
  unfold cS at *
  simp only [sget_cons] at *
  repeat' split at h
  all_goals first | cases h | skip
  simp_all
end
theorem outsM_right {ws outs : List ByteArray} {dep : ByteArray} (h : outsM ws = some (outs, dep)) : (∀ n ∈ outs, rightM (bL n) = true) ∧ 0 < outs.length := by
  have key : ∀ {ws outs : List ByteArray} {d dep : ByteArray}, chkO ws d = some (outs, dep) → (∀ n ∈ outs, rightM (bL n) = true) ∧ 0 < outs.length := fun {ws outs d dep} h => by
    unfold chkO at h
    split at h
    · rename_i hc
      cases h
      refine ⟨fun n hn => ?_, hc.2⟩
      obtain ⟨i, hi, rfl⟩ := List.getElem_of_mem hn
      have := hc.1 i hi
      unfold okAt at this
      rw [List.getElem?_eq_getElem hi] at this
      exact (Bool.and_eq_true _ _ ▸ this).1
    · cases h
  unfold outsM at h
  split at h
  · split at h
    · exact key h
    · cases h
  · exact key h
theorem shapeM_spec {cmd : ByteArray} {x : Shp} (h : shapeM cmd = some x) : isVerb (bL x.verb) = true ∧ (∀ n ∈ x.outs, rightM (bL n) = true) ∧ 0 < x.outs.length ∧ ((!(x.dep.toList == (⟨#[]⟩ : ByteArray).toList)) = (x.verb.toList == (⟨#[105, 110, 99]⟩ : ByteArray).toList)) := by
  have key : ∀ {o : Bool} {ws : List ByteArray}, shapeW o ws = some x → isVerb (bL x.verb) = true ∧ (∀ n ∈ x.outs, rightM (bL n) = true) ∧ 0 < x.outs.length ∧ ((!(x.dep.toList == (⟨#[]⟩ : ByteArray).toList)) = (x.verb.toList == (⟨#[105, 110, 99]⟩ : ByteArray).toList)) := fun {o ws} h => by
    unfold shapeW at h
    split at h
    · split at h
      · rename_i hv
        split at h
        · rename_i ho
          split at h
          · rename_i hd
            cases h
            exact ⟨hv, (outsM_right ho).1, (outsM_right ho).2, hd⟩
          · cases h
        · cases h
      · cases h
    · cases h
  unfold shapeM at h
  split at h
  · exact key h
  · exact key h
theorem runV_right {args decl : List ByteArray} {files : List XFile} {verb b : List UInt8} {found : List ByteArray} (h : runV args decl files verb = some (b, found)) : (∀ n ∈ found, rightM (bL n) = true) ∧ found.length ≤ 1000 := by
  have k0 : ∀ {o : Option (List UInt8)}, (o.map fun b => (b, ([] : List ByteArray))) = some (b, found) → (∀ n ∈ found, rightM (bL n) = true) ∧ found.length ≤ 1000 := fun {o} h => by
    cases o with
    | none => cases h
    | some c => cases h; exact ⟨fun n hn => (by cases hn), (by simp)⟩
  unfold runV at h
  repeat' split at h
  · exact k0 h
  · exact k0 h
  · exact k0 h
  · cases h; exact ⟨fun n hn => (by cases hn), (by simp)⟩
  · unfold incM at h
    cases hi : (oneB decl files args).bind fun b => putsD files 11 b ⟨[], [], 0⟩ with
    | none => rw [hi] at h; cases h
    | some s =>
      rw [hi] at h
      cases h
      obtain ⟨b, _, hp⟩ := Option.bind_eq_some_iff.1 hi
      have := putsD_ok files 11 b ⟨[], [], 0⟩ s ⟨by simp, by simp, by simp, by simp⟩ hp
      exact ⟨this.right, Nat.le_trans this.found this.many⟩
  · cases h
theorem right_len {n : ByteArray} (h : rightM (bL n) = true) : (bL n).length ≤ 100 := by
  unfold rightM at h
  rw [Bool.and_eq_true, decide_eq_true_eq, decide_eq_true_eq] at h
  obtain ⟨h0, h1⟩ := h
  rw [← h1]
  unfold cleanM at h0 ⊢
  split
  · simp
  · split
    · simp
    · split
      · simp
      · split
        · simp
        · split
          · simp
          · rename_i h; simpa using h
theorem Views.own2 {σ : Store} {ob : Option Nat} {sz n : Nat} {xs : List D} {v : Value} (hx : oget sz ob σ = some xs) (hn : n ≤ xs.length) : Views σ [.v v, .own ob sz n] [.v v, .slc (xs.take n)] := by
  cases ob with
  | none =>
    simp only [oget, Option.some.injEq] at hx
    subst hx
    refine .le fun w S vs h => ?_
    obtain ⟨v1, vs1, rfl, hv1, hv⟩ := h.cons_inv
    obtain ⟨v2, vs2, rfl, hv2, hv3⟩ := hv.cons_inv
    cases hv2 with
    | own0 => simp only [List.take_nil]; exact .cons hv1 (.cons .slc0 hv3)
  | some b =>
    simp only [oget] at hx
    split at hx
    · rename_i s ys hg
      split at hx
      · rename_i hs
        cases hx; subst hs
        refine .pub hg ?_
        have : pubs b s xs [.v v, .own (some b) s n] = [.v v, .slc (xs.take n)] := by
          simp only [pubs, D.pub]
          rw [if_pos ⟨trivial, trivial, hn⟩]
        rw [this]
        exact .refl _ _
      · cases hx
    · cases hx
end Go.Ab.S16
set_option linter.unusedSimpArgs false
set_option linter.unusedVariables false
set_option linter.constructorNameAsVariable false
namespace Go.Ab.S16
open Go Go.Proofs Go.RowKit
structure CmdOk (cmd : ByteArray) : Prop where
  size : cmd.size ≤ 4294967296
  words : (wordsM cmd).length < 2 ^ 40
  word : ∀ w ∈ wordsM cmd, w.size < 2 ^ 40
  args : ∀ x, shapeM cmd = some x → x.args.length < 2 ^ 16 ∧ (Lib.join (x.args.map (·.data.toList)) [32]).length < 2 ^ 45 ∧ x.outs.length < 2 ^ 20
def dish0 : D := .agg [.own none 2 0, .v (.bool false), .v (.string ⟨#[]⟩), .v (.string ⟨#[]⟩)]
def fD (b : List UInt8) (n : ByteArray) : D := XFile.d ⟨n, b⟩
theorem cook1_calls (kA kB kC kD : Nat) (hN : CN kA kB kC kD) (cmd : ByteArray) (decl : List ByteArray) (files : List XFile) (hcmd : CmdOk cmd) (hfl : files.length < 2 ^ 31) (hfb : ∀ f ∈ files, f.b.length < 2 ^ 20) (hd : decl.length < 2 ^ 40) :
    ACalls Tryz.prog 78 [.ptr kA 1 0 0, .ptr kB 1 0 0, .ptr kC 1 0 0, .ptr kD 4 0 0] (cS kA kB kC kD cmd decl files dish0) (fun e σ' => match cookM cmd decl files with
      | some x => e = .ret (.tup []) ∧ ∃ oo, GrD oo 2 (x.outs.map XFile.d) (cS kA kB kC kD cmd decl files dish0) ∧ σ' = cellsOf oo 2 (x.outs.map XFile.d) ++ cS kA kB kC kD cmd decl files (.agg [.own oo 2 (x.outs.map XFile.d).length, .v (.bool x.once), .v (.string x.dep), .v (.string x.deps)])
      | none => e = .panic failD) := by
  have hsh := fun σ => shape_calls cmd hcmd.size hcmd.words hcmd.word σ
  have ga := cS_a hN (cmd := cmd) (decl := decl) (files := files) (v := dish0)
  have gb := cS_b hN (cmd := cmd) (decl := decl) (files := files) (v := dish0)
  have gc := cS_c hN (cmd := cmd) (decl := decl) (files := files) (v := dish0)
  have gd := cS_d (bA := kA) (bB := kB) (bC := kC) (bD := kD) (cmd := cmd) (decl := decl) (files := files) (v := dish0)
  refine ACalls.of_body Tryz.func78 rfl Tryz.ntmps78 (by simp) fun C hC => ?_
  rcases hs : shapeM cmd with _ | x
  · have hc : cookM cmd decl files = none := by unfold cookM; rw [hs]
    rw [hc] at hC
    refine Goes.seq ?_
    have hp := hsh (cS kA kB kC kD cmd decl files dish0)
    rw [hs] at hp
    refine Goes.region [0, 1, 2, 3] fun K hK => ?_; simp (maxSteps := 4000000) only [go_sem, ga]
    refine ⟨_, Tryz.call79, hp.mono ?_⟩
    rintro e σ1 ⟨rfl, hs1⟩
    simp only [go_sem]
    exact Pan.of hC Tryz.func78 rfl
  · obtain ⟨hv, hor, hol, hdv⟩ := shapeM_spec hs
    obtain ⟨hal, haj, hoc⟩ := hcmd.args x hs
    have hck : cookM cmd decl files = cookR x decl files := by unfold cookM; rw [hs]
    refine Goes.seq ?_
    have hp := hsh (cS kA kB kC kD cmd decl files dish0)
    rw [hs] at hp
    refine Goes.region [0, 1, 2, 3] fun K hK => ?_; simp (maxSteps := 4000000) only [go_sem, ga]
    refine ⟨_, Tryz.call79, hp.mono ?_⟩
    rintro e σ1 ⟨rfl, rfl⟩
    simp only [go_sem, Shp.d]
    refine hK _ _ ?_; clear hK K
    refine Goes.seq ?_
    refine Goes.region [1, 2, 3, 4, 5, 6, 7, 8] fun K hK => ?_; simp (maxSteps := 4000000) only [go_sem, gb, gc]
    intro bc hbc
    refine hK _ _ ?_; clear hK K
    refine Goes.row_le (ys := [.agg [.slc (x.args.map sD), .slc (decl.map sD), .slc (files.map XFile.d), .own none 1 0, .v (.int .i64 0)]]) (fun w S vs h => by
      obtain ⟨v0, vs, rfl, r0, h⟩ := RepL.cons_inv (show RepL w S (.slc (x.args.map sD) :: [.slc (decl.map sD), .slc (files.map XFile.d), .v (.slice none 0 0), .v (.int .i64 0)]) vs from h)
      obtain ⟨v1, vs, rfl, r1, h⟩ := h.cons_inv
      obtain ⟨v2, vs, rfl, r2, h⟩ := h.cons_inv
      obtain ⟨v3, vs, rfl, r3, h⟩ := h.cons_inv
      exact .cons r0 (.cons r1 (.cons r2 (.cons (DLe.nil_own 1 w S v3 r3) h)))) (by simp [D.cells]) ?_
    change Goes C _ _ ((bc, ckR x.args decl files (.own none 1 0) 0) :: cS kA kB kC kD cmd decl files dish0)
    refine Goes.seq ?_
    rcases hr : runV x.args decl files (bL x.verb) with _ | ⟨b, found⟩
    · have hc0 : cookM cmd decl files = none := by rw [hck]; unfold cookR; rw [hr]
      rw [hc0] at hC
      refine Goes.region [3, 4, 6, 7, 8, 9] fun K hK => ?_; simp (maxSteps := 4000000) only [go_sem]
      refine ⟨_, Tryz.call80, (verbs_calls _).mono ?_⟩
      rintro e σ1 ⟨db, hdb, rfl, rfl⟩
      have hdbc : bc ≠ db := fun e => by
        rw [e, sget_cons, if_pos rfl] at hdb; cases hdb
      obtain ⟨g, hmf, hge, hgc⟩ := verb_spec x.args decl files bc ((db, .mp verbsM) :: (bc, ckR x.args decl files (.own none 1 0) 0) :: cS kA kB kC kD cmd decl files dish0) (bL x.verb) hv (by rw [sget_cons, if_neg hdbc, sget_self]) hfl hfb hd hal haj
      rw [lB_bL] at hmf
      rw [hr] at hgc
      simp only [go_sem, hmf]
      refine ⟨verbs_like _, ?_⟩
      refine ⟨g, hge, hgc.mono ?_⟩
      rintro e σ2 ⟨rfl, hk⟩
      simp only [go_sem]
      exact Pan.of hC Tryz.func78 rfl
    · refine Goes.region [3, 4, 6, 7, 8, 9] fun K hK => ?_; simp (maxSteps := 4000000) only [go_sem]
      refine ⟨_, Tryz.call80, (verbs_calls _).mono ?_⟩
      rintro e σ1 ⟨db, hdb, rfl, rfl⟩
      have hdbc : bc ≠ db := fun e => by
        rw [e, sget_cons, if_pos rfl] at hdb; cases hdb
      obtain ⟨g, hmf, hge, hgc⟩ := verb_spec x.args decl files bc ((db, .mp verbsM) :: (bc, ckR x.args decl files (.own none 1 0) 0) :: cS kA kB kC kD cmd decl files dish0) (bL x.verb) hv (by rw [sget_cons, if_neg hdbc, sget_self]) hfl hfb hd hal haj
      rw [lB_bL] at hmf
      rw [hr] at hgc
      simp only [go_sem, hmf]
      refine ⟨verbs_like _, ?_⟩
      refine ⟨g, hge, hgc.mono ?_⟩
      rintro e σ2 ⟨o, fo, many, hgo, hgf, rfl, rfl⟩
      simp only [go_sem]
      have hss : sset bc (ckR x.args decl files (.own fo 1 found.length) many) ((db, .mp verbsM) :: (bc, ckR x.args decl files (.own none 1 0) 0) :: cS kA kB kC kD cmd decl files dish0) = (db, .mp verbsM) :: (bc, ckR x.args decl files (.own fo 1 found.length) many) :: cS kA kB kC kD cmd decl files dish0 := by
        rw [sset_ne hdbc, sset_self]
      rw [hss] at hgo hgf
      simp only [hss]
      refine hK _ _ ?_; clear hK K
      have hdn : sget db ((bc, ckR x.args decl files (.own fo 1 found.length) many) :: cS kA kB kC kD cmd decl files dish0) = none := by
        rw [sget_cons] at hdb ⊢
        split at hdb
        · cases hdb
        · rename_i e; rw [if_neg e]; exact hdb
      have hgf1 := (hgf.drop hdn).1
      have hgo1 : GrD o 1 (b.map bD) (cellsOf fo 1 (found.map sD) ++ ((bc, ckR x.args decl files (.own fo 1 found.length) many) :: cS kA kB kC kD cmd decl files dish0)) := grd_base hgo fun c hc => app_dom hc fun h => by
        rw [sget_cons] at h
        split at h
        · cases h
        · exact h
      have hsl2 : SLe ((bc, ckR x.args decl files (.own fo 1 found.length) many) :: cS kA kB kC kD cmd decl files dish0) ((db, .mp verbsM) :: (bc, ckR x.args decl files (.own fo 1 found.length) many) :: cS kA kB kC kD cmd decl files dish0) := sle_push (SLe.refl _) hdn
      refine Goes.le (ELe.refl _) (SLe.append (SLe.append_left _ _) ((SLe.append (SLe.append_left _ _) (hsl2.trans hgf.sle)).trans hgo.sle)) ?_
      have hon : b.length = (b.map bD).length := (List.length_map ..).symm
      rw [hon]
      refine Goes.rebase [3, 6, 7, 8, 9, 10] ?_
      simp only [go_sem]
      refine Goes.pubSlot 10 rfl hgo1 (fun c hc => ?_) (fun c p hp hk => ?_) ?_
      · have hc2 := hc
        have hfc : fo ≠ some c := own_ne (SLe.append_left _ _) hc
        have h1 : sget c ((bc, ckR x.args decl files (.own fo 1 found.length) many) :: cS kA kB kC kD cmd decl files dish0) = none := by
          rw [sget_append] at hc
          split at hc
          · cases hc
          · exact hc
        have hne : ∀ {b c : Nat} {x : AObj} {τ : Store}, sget b ((c, x) :: τ) = none → b ≠ c ∧ sget b τ = none := fun {b c x τ} h => by
          rw [sget_cons] at h
          split at h
          · cases h
          · rename_i e; exact ⟨e, h⟩
        have h2 := hne h1
        have h3 := hne (show sget c ((kD, _) :: _) = none from h2.2)
        have h4 := hne h3.2
        have h5 := hne h4.2
        have h6 := hne h5.2
        have hpo : ∀ s ys, D.pub c s ys (.own fo 1 found.length) = .own fo 1 found.length := fun s ys => by
          cases fo with
          | none => rfl
          | some k =>
            show (if k = c ∧ 1 = s ∧ found.length ≤ ys.length then _ else _) = _
            rw [if_neg (fun h => hfc (by rw [h.1]))]
        refine PubOK.cells hfc (fun y hy s ys => ?_) (.cons h2.1 (fun s ys => ?_) (.cons h3.1 (fun _ _ => rfl) (.cons h4.1 (fun _ _ => rfl) (.cons h5.1 (fun _ _ => rfl) (.cons h6.1 (fun _ _ => rfl) (.nil c))))))
        · obtain ⟨z, _, rfl⟩ := List.mem_map.1 hy
          rfl
        · unfold ckR
          simp only [AObj.pub, List.map_cons, List.map_nil, D.pub, pubs]
          rw [show D.pub c s ys (.own fo 1 found.length) = .own fo 1 found.length from hpo s ys]
      · simp only [List.mem_cons, List.not_mem_nil, or_false] at hp
        rcases hp with rfl | rfl | rfl | rfl | rfl | rfl
        all_goals first | rfl | exact absurd rfl hk
      simp only [go_sem]
      have hgf2 : ∀ {y : AObj} {w : D}, GrD fo 1 (found.map sD) ((bc, y) :: cS kA kB kC kD cmd decl files w) := fun {y w} => grd_base hgf1 fun c hc => by
        rw [sget_cons] at hc ⊢
        split at hc
        · cases hc
        · rename_i e; rw [if_neg e]; exact cS_dom hc
      have hbcd : kD ≠ bc := fun e => by
        subst e; rw [gd] at hbc; cases hbc
      have gD : ∀ {y : AObj} {w : D}, sget kD (cellsOf fo 1 (found.map sD) ++ ((bc, y) :: cS kA kB kC kD cmd decl files w)) = some (.arr 4 [w]) := fun {y w} => hgf2.keep (by rw [sget_cons, if_neg hbcd, cS_d])
      have sD4 : ∀ {y : AObj} {w z : D}, sset kD (.arr 4 [z]) (cellsOf fo 1 (found.map sD) ++ ((bc, y) :: cS kA kB kC kD cmd decl files w)) = cellsOf fo 1 (found.map sD) ++ ((bc, y) :: cS kA kB kC kD cmd decl files z) := fun {y w z} => by
        rw [hgf2.sset (by rw [sget_cons, if_neg hbcd, cS_d]; rfl), sset_ne hbcd, cS_sd]
      refine Goes.seq ?_
      by_cases hle : b.length ≤ 65536
      · have hdc : decide ((b.length : Int) ≤ 65536) = true := decide_eq_true (by omega)
        refine Goes.region [3, 6, 7, 8, 9, 10] fun K hK => ?_; simp (maxSteps := 4000000) only [go_sem, ← hon]
        simp only [hdc]
        refine ⟨_, Tryz.call81, (need_calls true _).mono ?_⟩
        rintro e σ1 ⟨rfl, rfl⟩
        simp only [go_sem]
        refine hK _ _ ?_; clear hK K
        refine Goes.seq ?_
        unfold dish0
        refine Goes.region [3, 6, 7, 8, 9, 10] fun K hK => ?_; simp (maxSteps := 4000000) only [go_sem, gD, sD4]
        refine hK _ _ ?_; clear hK K
        refine Goes.seq ?_
        refine Goes.seq ?_
        have holl : (x.outs.map sD).length = x.outs.length := List.length_map ..
        refine Goes.region [3, 7, 8, 9, 10] fun K hK => ?_; simp (maxSteps := 4000000) only [go_sem, holl]
        refine hK _ _ ?_; clear hK K
        refine Goes.block ?_
        refine Goes.rebase [3, 7, 8, 9, 10, 37, 38, 39] ?_
        simp only [go_sem]
        refine Goes.while (fun (i : Nat) env' σ'' => ∃ oo : Option Nat, (i ≤ x.outs.length ∧ GrD oo 2 ((x.outs.take i).map (fD b)) (cellsOf fo 1 (found.map sD) ++ ((bc, ckR x.args decl files (.own fo 1 found.length) many) :: cS kA kB kC kD cmd decl files dish0))) ∧ env' = [(3, .ptr kD 4 0 0), (7, .slc (x.outs.map sD)), (8, .v (.string x.dep)), (9, .ptr bc 5 0 0), (10, .slc (b.map bD)), (37, .slc (x.outs.map sD)), (38, .v (.int .i64 (x.outs.length : Int))), (39, .v (.int .i64 (i : Int)))] ∧ σ'' = cellsOf oo 2 ((x.outs.take i).map (fD b)) ++ (cellsOf fo 1 (found.map sD) ++ ((bc, ckR x.args decl files (.own fo 1 found.length) many) :: cS kA kB kC kD cmd decl files (.agg [.own oo 2 i, .v (.bool x.once), .v (.string ⟨#[]⟩), .v (.string ⟨#[]⟩)])))) (fun (i : Nat) => x.outs.length - i) 0 ⟨none, ⟨Nat.zero_le _, GrD.nil _ _⟩, rfl, rfl⟩ ?_
        rintro i env' σ'' ⟨oo, ⟨hi, hgr⟩, rfl, rfl⟩ ih
        have ih1 := ih
        have hgr2 : ∀ {y : AObj} {w : D}, GrD oo 2 ((x.outs.take i).map (fD b)) (cellsOf fo 1 (found.map sD) ++ ((bc, y) :: cS kA kB kC kD cmd decl files w)) := fun {y w} => grd_base hgr fun c hc => app_dom hc fun h => by
          rw [sget_cons] at h ⊢
          split at h
          · cases h
          · rename_i e; rw [if_neg e]; exact cS_dom h
        have gD2 : ∀ {y : AObj} {w : D}, sget kD (cellsOf oo 2 ((x.outs.take i).map (fD b)) ++ (cellsOf fo 1 (found.map sD) ++ ((bc, y) :: cS kA kB kC kD cmd decl files w))) = some (.arr 4 [w]) := fun {y w} => hgr2.keep gD
        have sD2 : ∀ {y : AObj} {w z : D}, sset kD (.arr 4 [z]) (cellsOf oo 2 ((x.outs.take i).map (fD b)) ++ (cellsOf fo 1 (found.map sD) ++ ((bc, y) :: cS kA kB kC kD cmd decl files w))) = cellsOf oo 2 ((x.outs.take i).map (fD b)) ++ (cellsOf fo 1 (found.map sD) ++ ((bc, y) :: cS kA kB kC kD cmd decl files z)) := fun {y w z} => by
          rw [hgr2.sset (by rw [gD]; rfl), sD4]
        have hdrop : ∀ {y : AObj} {w : D}, SLe (cellsOf oo 2 ((x.outs.take i).map (fD b)) ++ cS kA kB kC kD cmd decl files w) (cellsOf oo 2 ((x.outs.take i).map (fD b)) ++ (cellsOf fo 1 (found.map sD) ++ ((bc, y) :: cS kA kB kC kD cmd decl files w))) := fun {y w} => SLe.append (SLe.append_left _ _) (((sle_push (SLe.refl _) (cS_dom hbc)).trans hgf2.sle).trans hgr2.sle)
        refine Goes.seq ?_
        refine Goes.region [3, 7, 8, 9, 10, 37, 38, 39] fun K hK => ?_; simp (maxSteps := 4000000) only [go_sem]
        refine hK _ _ ?_; clear hK K
        refine Goes.seq ?_
        refine Goes.cond rfl (fun h40 => ?_) (fun h40 => ?_)
        · have hlt : i < x.outs.length := by simpa using h40
          have hg := getD_map_lt sD x.outs i hlt
          rw [sD] at hg
          have hi0 : (0 : Int) ≤ (i : Int) := by omega
          have hi1 : (i : Int) < (x.outs.length : Int) := by omega
          have ho2 : ∀ {y : AObj} {w : D}, oget 2 oo (cellsOf oo 2 ((x.outs.take i).map (fD b)) ++ (cellsOf fo 1 (found.map sD) ++ ((bc, y) :: cS kA kB kC kD cmd decl files w))) = some ((x.outs.take i).map (fD b)) := fun {y w} => (hgr2 (y := y) (w := w)).oget
          have hd2 : ∀ {y : AObj} {w : D}, sdelo oo (cellsOf oo 2 ((x.outs.take i).map (fD b)) ++ (cellsOf fo 1 (found.map sD) ++ ((bc, y) :: cS kA kB kC kD cmd decl files w))) = cellsOf fo 1 (found.map sD) ++ ((bc, y) :: cS kA kB kC kD cmd decl files w) := fun {y w} => (hgr2 (y := y) (w := w)).sdel
          have htl : ((x.outs.take i).map (fD b)).length = i := by simp; omega
          have htk : List.take i ((x.outs.take i).map (fD b)) = (x.outs.take i).map (fD b) := List.take_of_length_le (by omega)
          refine Goes.skip ?_
          refine Goes.seq ?_
          refine Goes.block ?_
          refine Goes.seq ?_
          refine Goes.region [3, 7, 8, 9, 10, 37, 38, 39] fun K hK => ?_; simp (maxSteps := 4000000) only [go_sem, holl, hg, hi0, hi1]
          refine hK _ _ ?_; clear hK K
          refine Goes.draw [3, 7, 8, 9, 10, 12, 37, 38, 39] [49] [kD] [9] [(0, true), (1, true), (2, true), (3, true), (4, false), (5, true), (6, true), (7, false), (8, true), (9, false)] (by kernel_rfl) (by decide) (by kernel_rfl) fun K hK => ?_; simp (maxSteps := 4000000) only [go_sem, gD2]
          refine ⟨_, Tryz.call67, (clone_byte (b.map bD) _ (plain_bD b) (by rw [List.length_map]; omega)).mono ?_⟩
          rintro e σ1 ⟨rfl, rfl⟩
          simp only [go_sem, gD2, ho2, hd2, htk]
          refine ⟨⟨by decide, by decide⟩, ⟨by omega, fun y hy => by rw [hy]; exact ⟨rfl, rfl⟩, by rw [htl]; omega, by rw [htl]; omega⟩, fun ob hz hf => ?_⟩
          have hmf : (x.outs.take i).map (fD b) ++ [D.agg [D.v (Value.string x.outs[i]), D.slc (b.map bD)]] = (x.outs.take (i + 1)).map (fD b) := by rw [List.take_succ_eq_append_getElem hlt, List.map_append]; rfl
          simp only [hmf] at hz ⊢
          have hgr3 : ∀ {y : AObj} {w : D}, GrD ob 2 ((x.outs.take (i + 1)).map (fD b)) (cellsOf fo 1 (found.map sD) ++ ((bc, y) :: cS kA kB kC kD cmd decl files w)) := fun {y w} => ⟨fun c hc => app_dom (hf c hc) fun h => (by
            rw [sget_cons] at h ⊢
            split at h
            · cases h
            · rename_i e; rw [if_neg e]; exact cS_dom h), hz⟩
          have gD3 : ∀ {y : AObj} {w : D}, sget kD (cellsOf ob 2 ((x.outs.take (i + 1)).map (fD b)) ++ (cellsOf fo 1 (found.map sD) ++ ((bc, y) :: cS kA kB kC kD cmd decl files w))) = some (.arr 4 [w]) := fun {y w} => hgr3.keep gD
          have sD3 : ∀ {y : AObj} {w z : D}, sset kD (.arr 4 [z]) (cellsOf ob 2 ((x.outs.take (i + 1)).map (fD b)) ++ (cellsOf fo 1 (found.map sD) ++ ((bc, y) :: cS kA kB kC kD cmd decl files w))) = cellsOf ob 2 ((x.outs.take (i + 1)).map (fD b)) ++ (cellsOf fo 1 (found.map sD) ++ ((bc, y) :: cS kA kB kC kD cmd decl files z)) := fun {y w z} => by
            rw [hgr3.sset (by rw [gD]; rfl), sD4]
          have hl3 : ((x.outs.take (i + 1)).map (fD b)).length = i + 1 := by simp; omega
          refine ⟨?_, ?_⟩
          · rintro b1 rfl
            rw [gD3, gD2]
          simp only [go_sem, gD3, sD3, hl3]
          refine hK _ _ ?_; clear hK K
          refine Goes.inBlock ?_
          refine Goes.region [3, 7, 8, 9, 10, 37, 38, 39] fun K hK => ?_; simp (maxSteps := 4000000) only [go_sem]
          refine hK _ _ ?_; clear hK K
          refine Goes.rebase [3, 7, 8, 9, 10, 37, 38, 39] ?_
          simp only [go_sem]
          rw [wrap_succ i (by omega)]
          exact ih (i + 1) _ _ ⟨ob, ⟨by omega, hgr3⟩, rfl, rfl⟩ (by omega)
        · have hie : i = x.outs.length := by simp at h40; omega
          subst hie
          have hxs : (x.outs.take x.outs.length).map (fD b) = (x.outs.map fun n => (⟨n, b⟩ : XFile)).map XFile.d := by rw [List.take_length, List.map_map]; rfl
          have hxl : ((x.outs.map fun n => (⟨n, b⟩ : XFile)).map XFile.d).length = x.outs.length := by simp
          have hgF : GrD oo 2 ((x.outs.map fun n => (⟨n, b⟩ : XFile)).map XFile.d) (cS kA kB kC kD cmd decl files dish0) := by
            rw [← hxs]
            exact grd_base hgr fun c hc => by
              have h1 : sget c ((bc, ckR x.args decl files (.own fo 1 found.length) many) :: cS kA kB kC kD cmd decl files dish0) = none := by
                rw [sget_append] at hc
                split at hc
                · cases hc
                · exact hc
              rw [sget_cons] at h1
              split at h1
              · cases h1
              · exact h1
          refine Goes.exit rfl ?_
          refine Goes.seq ?_
          refine Goes.region [3, 7, 8, 9] fun K hK => ?_; simp (maxSteps := 4000000) only [go_sem]
          refine hK _ _ ?_; clear hK K
          refine Goes.cond rfl (fun h54 => ?_) (fun h54 => ?_)
          · have hdt : (!(x.dep.toList == (⟨#[]⟩ : ByteArray).toList)) = true := h54
            have hcs : cookM cmd decl files = some ⟨x.outs.map fun n => ⟨n, b⟩, x.once, x.dep, lB (printT (x.outs.getD 0 ⟨#[]⟩) found ++ [10])⟩ := by rw [hck]; unfold cookR; rw [hr]; simp only [if_pos hle, if_pos hdt]
            rw [hcs] at hC
            have hg0 := getD_map_lt sD x.outs 0 (by omega)
            have h00 : x.outs[0]'(by omega) = x.outs.getD 0 ⟨#[]⟩ := by rw [List.getD_eq_getElem?_getD, List.getElem?_eq_getElem (by omega)]; rfl
            rw [sD, h00] at hg0
            have hi00 : (0 : Int) < (x.outs.length : Int) := by omega
            have hr0 := hor _ (List.getElem_mem (show 0 < x.outs.length by omega))
            rw [h00] at hr0
            have gBc : ∀ {y : AObj} {w : D}, sget bc (cellsOf oo 2 ((x.outs.take x.outs.length).map (fD b)) ++ (cellsOf fo 1 (found.map sD) ++ ((bc, y) :: cS kA kB kC kD cmd decl files w))) = some y := fun {y w} => hgr2.keep (hgf2.keep (sget_self ..))
            obtain ⟨hfr, hfl2⟩ := runV_right hr
            have hof : ∀ {y : AObj} {w : D}, oget 1 fo (cellsOf oo 2 ((x.outs.take x.outs.length).map (fD b)) ++ (cellsOf fo 1 (found.map sD) ++ ((bc, y) :: cS kA kB kC kD cmd decl files w))) = some (found.map sD) := fun {y w} => by
              rw [oget_app (cells_none (hgr2 (y := y) (w := w)))]
              exact hgf2.oget
            have hpr := print_calls (x.outs.getD 0 ⟨#[]⟩) found [] (by have := right_len hr0; omega) (by omega) (fun d hd => by have := right_len (hfr d hd); omega) (fun d hd => by
              rcases List.mem_cons.1 hd with rfl | hd
              · exact hr0
              · exact hfr d hd)
            have hfm : List.take found.length (found.map sD) = found.map sD := List.take_of_length_le (by simp)
            have hvw : ∀ {y : AObj} {w : D}, Views (cellsOf oo 2 ((x.outs.take x.outs.length).map (fD b)) ++ (cellsOf fo 1 (found.map sD) ++ ((bc, y) :: cS kA kB kC kD cmd decl files w))) [.v (.string (x.outs.getD 0 ⟨#[]⟩)), .own fo 1 found.length] [.v (.string (x.outs.getD 0 ⟨#[]⟩)), .slc (found.map sD)] := fun {y w} => by
              have := Views.own2 (v := .string (x.outs.getD 0 ⟨#[]⟩)) (hof (y := y) (w := w)) (n := found.length) (by simp)
              rw [hfm] at this; exact this
            refine Goes.seq ?_
            refine Goes.region [3, 7, 8, 9] fun K hK => ?_; simp (maxSteps := 4000000) only [go_sem, gD2, sD2]
            refine hK _ _ ?_; clear hK K
            refine Goes.draw [3, 7, 9] [] [bc] [] [(0, true), (1, true), (2, true), (3, true), (4, true), (5, true), (6, true), (7, false), (8, true), (9, true), (10, true), (11, true), (12, false)] (by kernel_rfl) (by decide) (by kernel_rfl) fun K hK => ?_; simp (maxSteps := 4000000) only [go_sem, holl, hg0, hi00, gBc, ckR]
            refine ⟨_, Tryz.call82, (ACalls.lend hvw rfl hpr).mono ?_⟩
            rintro e σ1 ⟨rfl, rfl⟩
            simp only [go_sem, gD2, sD2]
            refine ⟨fun b1 hb1 => (by subst hb1; rw [gBc, gBc]), ?_⟩
            refine hK _ _ ?_; clear hK K
            refine Goes.le (ELe.refl _) hdrop ?_
            refine Goes.done hC Tryz.func78 (by simp [go_sem]) ?_
            simp only [go_sem]
            exact ⟨oo, hgF, by rw [hxs, hxl]⟩
          · have hdt : (!(x.dep.toList == (⟨#[]⟩ : ByteArray).toList)) = false := h54
            have hcs : cookM cmd decl files = some ⟨x.outs.map fun n => ⟨n, b⟩, x.once, x.dep, ⟨#[]⟩⟩ := by rw [hck]; unfold cookR; rw [hr]; simp only [if_pos hle, hdt]; rfl
            rw [hcs] at hC
            have hde : x.dep = ⟨#[]⟩ := by
              have h1 : x.dep.toList = (⟨#[]⟩ : ByteArray).toList := by simpa using hdt
              rw [tl_data, tl_data] at h1
              have e : ∀ x y : ByteArray, x.data = y.data → x = y := fun x y h => by cases x; cases y; cases h; rfl
              exact e _ _ (Array.toList_inj.1 h1)
            refine Goes.le (ELe.refl _) hdrop ?_
            refine Goes.skip ?_
            refine Goes.done hC Tryz.func78 (by simp [go_sem]) ?_
            simp only [go_sem]
            exact ⟨oo, hgF, by rw [hxs, hxl, hde]⟩
      · have hdc : decide ((b.length : Int) ≤ 65536) = false := decide_eq_false (by omega)
        have hc0 : cookM cmd decl files = none := by rw [hck]; unfold cookR; rw [hr]; exact if_neg hle
        rw [hc0] at hC
        refine Goes.region [3, 6, 7, 8, 9, 10] fun K hK => ?_; simp (maxSteps := 4000000) only [go_sem, ← hon]
        simp only [hdc]
        refine ⟨_, Tryz.call81, (need_calls false _).mono ?_⟩
        rintro e σ1 ⟨rfl, rfl⟩
        simp only [go_sem]
        exact Pan.of hC Tryz.func78 rfl
end Go.Ab.S16
set_option linter.unusedSimpArgs false
set_option linter.unusedVariables false
set_option linter.constructorNameAsVariable false
namespace Go.Ab.S16
open Go Go.Proofs Go.RowKit
def XDish.none : XDish := ⟨[], false, ⟨#[]⟩, ⟨#[]⟩⟩
def cookD : Option XDish → D
  | some x => .tup [x.d, eD 0]
  | none => .tup [XDish.none.d, eD 13]
theorem cook_own (cmd : ByteArray) (decl : List ByteArray) (files : List XFile) (hcmd : CmdOk cmd) (hfl : files.length < 2 ^ 31) (hfb : ∀ f ∈ files, f.b.length < 2 ^ 20) (hd : decl.length < 2 ^ 40) :
    ACalls Tryz.prog 42 [.v (.string cmd), .slc (decl.map sD), .slc (files.map XFile.d)] [] (fun e σ' => match cookM cmd decl files with
      | some x => ∃ oo, GrD oo 2 (x.outs.map XFile.d) [] ∧ e = .ret (.tup [.agg [.own oo 2 (x.outs.map XFile.d).length, .v (.bool x.once), .v (.string x.dep), .v (.string x.deps)], eD 0]) ∧ σ' = cellsOf oo 2 (x.outs.map XFile.d)
      | none => e = .ret (.tup [.agg [.v (.slice none 0 0), .v (.bool false), .v (.string ⟨#[]⟩), .v (.string ⟨#[]⟩)], eD 13]) ∧ σ' = []) := by
  refine ACalls.forget (R := fun e σ' => match cookM cmd decl files with
      | some x => ∃ oo, GrD oo 2 (x.outs.map XFile.d) [] ∧ e = .ret (.tup [.agg [.own oo 2 (x.outs.map XFile.d).length, .v (.bool x.once), .v (.string x.dep), .v (.string x.deps)], eD 0]) ∧ SLe (cellsOf oo 2 (x.outs.map XFile.d)) σ'
      | none => e = .ret (.tup [.agg [.v (.slice none 0 0), .v (.bool false), .v (.string ⟨#[]⟩), .v (.string ⟨#[]⟩)], eD 13])) ?_ (fun e σ' h => ?_)
  rotate_left
  · cases hc : cookM cmd decl files with
    | none => rw [hc] at h; exact ⟨[], SLe.nil _, h, rfl⟩
    | some x =>
      rw [hc] at h
      obtain ⟨oo, h1, h2, h3⟩ := h
      exact ⟨_, h3, oo, h1, h2, rfl⟩
  refine ACalls.of_body Tryz.func42 rfl Tryz.ntmps42 (by simp) fun C hC => ?_
  refine Goes.seq ?_
  refine Goes.region [0, 1, 2] fun K hK => ?_; simp (maxSteps := 4000000) only [go_sem]
  intro kA kB hB kC hC' kR hR
  refine hK _ _ ?_; clear hK K
  refine Goes.seq ?_
  refine Goes.region [3, 4, 5, 6] fun K hK => ?_; simp (maxSteps := 4000000) only [go_sem]
  intro kD hD
  refine hK _ _ ?_; clear hK K
  have hne : ∀ {b c : Nat} {x : AObj} {τ : Store}, sget b ((c, x) :: τ) = none → b ≠ c ∧ sget b τ = none := fun {b c x τ} h => by
    rw [sget_cons] at h
    split at h
    · cases h
    · rename_i e; exact ⟨e, h⟩
  have hN : CN kA kB kC kD := ⟨Ne.symm (hne hB).1, Ne.symm (hne (hne hC').2).1, Ne.symm (hne (hne (hne (hne hD).2).2).2).1, Ne.symm (hne hC').1, Ne.symm (hne (hne (hne hD).2).2).1, Ne.symm (hne (hne hD).2).1⟩
  refine Goes.row_le (ys := [dish0]) (fun w S vs h => by
    obtain ⟨v0, vs, rfl, r0, h⟩ := RepL.cons_inv (show RepL w S (.v (.slice none 0 0) :: [.v (.bool false), .v (.string ⟨#[]⟩), .v (.string ⟨#[]⟩)]) vs from h)
    exact .cons (DLe.nil_own 2 w S v0 r0) h) (by simp [D.cells, dish0]) ?_
  obtain ⟨zR, hzR⟩ : ∃ z : D, z = .agg [.v (.slice none 0 0), .v (.bool false), .v (.string ByteArray.empty), .v (.string ByteArray.empty)] := ⟨_, rfl⟩
  have hRA := (hne (hne (hne hR).2).2).1
  have hRB := (hne (hne hR).2).1
  have hRC := (hne hR).1
  have hDR := (hne hD).1
  have hap : Apart [(kR, .arr 4 [zR])] (cS kA kB kC kD cmd decl files dish0) := .cons (by
    unfold cS
    rw [sget_cons, if_neg (Ne.symm hDR), sget_cons, if_neg hRC, sget_cons, if_neg hRB, sget_cons, if_neg hRA]; rfl) (Apart.nil _)
  have hs1 : SLe (cS kA kB kC kD cmd decl files dish0) [(kD, .arr 4 [dish0]), (kR, .arr 4 [zR]), (kC, .arr 1 [.slc (files.map XFile.d)]), (kB, .arr 1 [.slc (decl.map sD)]), (kA, .arr 1 [.v (.string cmd)])] := by
    unfold cS
    exact sle_cons2 (sle_push (SLe.refl _) (by rw [sget_cons, if_neg hRC, sget_cons, if_neg hRB, sget_cons, if_neg hRA]; rfl))
  have hs2 : SLe [(kR, .arr 4 [zR])] [(kD, .arr 4 [dish0]), (kR, .arr 4 [zR]), (kC, .arr 1 [.slc (files.map XFile.d)]), (kB, .arr 1 [.slc (decl.map sD)]), (kA, .arr 1 [.v (.string cmd)])] := SLe.cons (by rw [sget_cons, if_neg (Ne.symm hDR), sget_self]) (SLe.nil _)
  have hfr := (cook1_calls kA kB kC kD hN cmd decl files hcmd hfl hfb hd).frame hs1 hs2 hap
  have hgu := guarded_calls 78 [.ptr kA 1 0 0, .ptr kB 1 0 0, .ptr kC 1 0 0, .ptr kD 4 0 0] _ (R := fun e σ' => match cookM cmd decl files with
      | some x => e = .ret (.v (.int .i64 0)) ∧ ∃ oo, GrD oo 2 (x.outs.map XFile.d) (cS kA kB kC kD cmd decl files dish0) ∧ (Apart [(kR, .arr 4 [zR])] (cellsOf oo 2 (x.outs.map XFile.d) ++ cS kA kB kC kD cmd decl files (.agg [.own oo 2 (x.outs.map XFile.d).length, .v (.bool x.once), .v (.string x.dep), .v (.string x.deps)]))) ∧ σ' = (cellsOf oo 2 (x.outs.map XFile.d) ++ cS kA kB kC kD cmd decl files (.agg [.own oo 2 (x.outs.map XFile.d).length, .v (.bool x.once), .v (.string x.dep), .v (.string x.deps)])) ++ [(kR, .arr 4 [zR])]
      | none => e = .ret (.v (.int .i64 13)) ∧ sget kR σ' = some (.arr 4 [zR])) Tryz.call78 hfr (fun e σ' h => by
    obtain ⟨σ1, h1, h2, rfl⟩ := h
    cases hc : cookM cmd decl files with
    | none =>
      rw [hc] at h1
      refine .inr ⟨h1, rfl, ?_⟩
      rw [sget_append_none (h2 kR (by rw [sget_self]; simp)), sget_self]
    | some x =>
      rw [hc] at h1
      obtain ⟨rfl, oo, hg, rfl⟩ := h1
      exact .inl ⟨rfl, rfl, oo, hg, h2, rfl⟩)
  rw [← hzR]
  refine Goes.seq ?_
  rcases hc : cookM cmd decl files with _ | x
  · rw [hc] at hgu hC
    refine Goes.region [3, 4, 5, 6, 8] fun K hK => ?_; simp (maxSteps := 4000000) only [go_sem]
    refine ⟨_, Tryz.call77, hgu.mono ?_⟩
    rintro e σ1 ⟨rfl, hz⟩
    simp only [go_sem]
    refine hK _ _ ?_; clear hK K
    refine Goes.seq ?_
    refine Goes.seq ?_
    refine Goes.region [6, 8, 9] fun K hK => ?_; simp (maxSteps := 4000000) only [go_sem]
    refine hK _ _ ?_; clear hK K
    refine Goes.condT rfl ?_
    refine Goes.seq ?_
    refine Goes.region [6, 9] fun K hK => ?_; simp (maxSteps := 4000000) only [go_sem, hz, hzR]
    refine hK _ _ ?_; clear hK K
    have hzr : ∀ r, sget kR (sset kR (.arr 4 [r]) σ1) = some (.arr 4 [r]) := fun r => by rw [sget_sset, if_pos rfl, hz]; rfl
    refine Goes.ret hC Tryz.func42 (by simp [go_sem, hzr]) ?_
    simp only [go_sem, hzr]
    rfl
  · rw [hc] at hgu hC
    refine Goes.region [3, 4, 5, 6, 8] fun K hK => ?_; simp (maxSteps := 4000000) only [go_sem]
    refine ⟨_, Tryz.call77, hgu.mono ?_⟩
    rintro e σ1 ⟨rfl, oo, hg, hapR, rfl⟩
    simp only [go_sem]
    refine hK _ _ ?_; clear hK K
    refine Goes.seq ?_
    refine Goes.seq ?_
    refine Goes.region [6, 8, 9] fun K hK => ?_; simp (maxSteps := 4000000) only [go_sem]
    refine hK _ _ ?_; clear hK K
    refine Goes.condF rfl ?_
    refine Goes.skip ?_
    refine Goes.seq ?_
    obtain ⟨W, hW⟩ : ∃ W : D, W = .agg [.own oo 2 (x.outs.map XFile.d).length, .v (.bool x.once), .v (.string x.dep), .v (.string x.deps)] := ⟨_, rfl⟩
    rw [← hW] at hapR ⊢
    have hgW : GrD oo 2 (x.outs.map XFile.d) (cS kA kB kC kD cmd decl files W) := grd_base hg fun b hb => cS_dom hb
    have hkR := hapR kR (by rw [sget_self]; simp)
    have gD5 : ∀ r, sget kD (cellsOf oo 2 (x.outs.map XFile.d) ++ cS kA kB kC kD cmd decl files W ++ [(kR, .arr 4 [r])]) = some (.arr 4 [.agg [.own oo 2 (x.outs.map XFile.d).length, .v (.bool x.once), .v (.string x.dep), .v (.string x.deps)]]) := fun r => by
      rw [← hW]; exact sget_append_some (hgW.keep cS_d)
    have gR5 : ∀ r, sget kR (cellsOf oo 2 (x.outs.map XFile.d) ++ cS kA kB kC kD cmd decl files W ++ [(kR, .arr 4 [r])]) = some (.arr 4 [r]) := fun r => by
      rw [sget_append_none hkR, sget_self]
    have sR5 : ∀ r r', sset kR (.arr 4 [r']) (cellsOf oo 2 (x.outs.map XFile.d) ++ cS kA kB kC kD cmd decl files W ++ [(kR, .arr 4 [r])]) = cellsOf oo 2 (x.outs.map XFile.d) ++ cS kA kB kC kD cmd decl files W ++ [(kR, .arr 4 [r'])] := fun r r' => by
      rw [sset_app hkR, sset_self]
    have gR6 : ∀ r, sget kR (cellsOf oo 2 (x.outs.map XFile.d) ++ (cS kA kB kC kD cmd decl files W ++ [(kR, .arr 4 [r])])) = some (.arr 4 [r]) := fun r => by rw [← List.append_assoc]; exact gR5 r
    rw [hzR]
    refine Goes.region [6, 8] fun K hK => ?_; simp (maxSteps := 4000000) only [go_sem, gD5, gR5, sR5]
    refine hK _ _ ?_; clear hK K
    refine Goes.ret hC Tryz.func42 (by simp [go_sem, gR6]) ?_
    simp only [go_sem, gR5]
    exact ⟨oo, ⟨fun c hc => rfl, hg.zero⟩, rfl, (SLe.append_left _ _).trans (SLe.append_left _ _)⟩
theorem cook_calls (cmd : ByteArray) (decl : List ByteArray) (files : List XFile) (hcmd : CmdOk cmd) (hfl : files.length < 2 ^ 31) (hfb : ∀ f ∈ files, f.b.length < 2 ^ 20) (hd : decl.length < 2 ^ 40) (σ : Store) :
    ACalls Tryz.prog 42 [.v (.string cmd), .slc (decl.map sD), .slc (files.map XFile.d)] σ (fun e σ' => e = .ret (cookD (cookM cmd decl files)) ∧ σ' = σ) := by
  have h := cook_own cmd decl files hcmd hfl hfb hd
  have h2 : ACalls Tryz.prog 42 [.v (.string cmd), .slc (decl.map sD), .slc (files.map XFile.d)] [] (fun e σ' => (e = .ret (cookD (cookM cmd decl files)) ∧ σ' = []) ∨ ∃ x b, cookM cmd decl files = some x ∧ e = .ret (.tup [.agg [.own (some b) 2 (x.outs.map XFile.d).length, .v (.bool x.once), .v (.string x.dep), .v (.string x.deps)], eD 0]) ∧ σ' = [(b, .arr 2 (x.outs.map XFile.d))]) := by
    refine h.ret_le fun e σ' hR => ?_
    cases hc : cookM cmd decl files with
    | none =>
      rw [hc] at hR
      obtain ⟨rfl, rfl⟩ := hR
      refine .inr ⟨_, _, rfl, fun w S v hv => ?_, .inl ⟨rfl, rfl⟩⟩
      cases hv with
      | tup hr =>
        obtain ⟨v0, vs, rfl, r0, hr2⟩ := hr.cons_inv
        cases r0 with
        | agg r0 =>
          obtain ⟨v1, vs1, rfl, r1, r2⟩ := RepL.cons_inv (show RepL w S (.v (.slice none 0 0) :: [.v (.bool false), .v (.string ⟨#[]⟩), .v (.string ⟨#[]⟩)]) _ from r0)
          exact .tup (.cons (.agg (.cons (DLe.nil_slc w S v1 r1) r2)) hr2)
    | some x =>
      rw [hc] at hR
      obtain ⟨oo, hg, rfl, rfl⟩ := hR
      cases oo with
      | some b => exact .inl (.inr ⟨x, b, rfl, rfl, rfl⟩)
      | none =>
        have hx := hg.zero rfl
        refine .inr ⟨_, _, rfl, fun w S v hv => ?_, .inl ⟨rfl, rfl⟩⟩
        cases hv with
        | tup hr =>
          obtain ⟨v0, vs, rfl, r0, hr2⟩ := hr.cons_inv
          cases r0 with
          | agg r0 =>
            obtain ⟨v1, vs1, rfl, r1, r2⟩ := r0.cons_inv
            refine .tup (.cons (.agg (.cons ?_ r2)) hr2)
            rw [hx]
            exact DLe.own_slc _ _ w S v1 r1
  refine h2.pub1 (R' := fun e => e = .ret (cookD (cookM cmd decl files))) (fun e σ' hR => ?_) σ
  rcases hR with h3 | ⟨x, b, hc, rfl, rfl⟩
  · exact .inl h3
  · refine .inr ⟨_, b, 2, _, rfl, rfl, ?_⟩
    rw [hc]
    unfold cookD XDish.d eD
    simp only [D.pub, pubs, true_and]
    rw [if_pos (Nat.le_refl _), List.take_length]
end Go.Ab.S16
set_option linter.unusedSimpArgs false
set_option linter.unusedVariables false
set_option linter.constructorNameAsVariable false
namespace Go.Ab.S16
open Go Go.Proofs Go.RowKit
theorem clone_fileO (xs : List D) (σ : Store) (hp : ∀ x ∈ xs, x.cells.length = 2 ∧ x.plain = true) (hl : xs.length < 2 ^ 40) :
    ACalls Tryz.prog 39 [.slc xs] σ (fun e σ' => ∃ o, GrD o 2 xs σ ∧ e = .ret (.own o 2 xs.length) ∧ σ' = cellsOf o 2 xs ++ σ) := by
  refine ACalls.ret_le (R := fun e σ' => (∃ o, GrD o 2 xs σ ∧ e = .ret (.own o 2 xs.length) ∧ σ' = cellsOf o 2 xs ++ σ) ∨ (xs = [] ∧ e = .ret (.v (.slice none 0 0)) ∧ σ' = σ)) ?_ fun e σ' h => ?_
  rotate_left
  · rcases h with h | ⟨rfl, rfl, rfl⟩
    · exact .inl h
    · exact .inr ⟨_, _, rfl, DLe.nil_own 2, none, GrD.nil _ _, rfl, rfl⟩
  refine ACalls.of_body Tryz.func39 rfl Tryz.ntmps39 (by simp) fun C hC => ?_
  refine Goes.seq ?_
  refine Goes.region [0] fun K hK => ?_; simp (maxSteps := 4000000) only [go_sem]
  refine hK _ _ ?_; clear hK K
  refine Goes.seq ?_
  refine Goes.seq ?_
  refine Goes.region [0] fun K hK => ?_; simp (maxSteps := 4000000) only [go_sem]
  intro t ht
  refine hK _ _ ?_; clear hK K
  refine Goes.cond rfl (fun h4 => ?_) (fun h4 => ?_)
  · have hx : xs = [] := by
      cases xs with
      | nil => rfl
      | cons a l => have := ht (by simp); rw [h4] at this; cases this
    refine Goes.seq ?_
    refine Goes.region [] fun K hK => ?_; simp (maxSteps := 4000000) only [go_sem]
    refine hK _ _ ?_; clear hK K
    refine Goes.ret hC Tryz.func39 (by simp [go_sem]) ?_
    simp only [go_sem]
    exact .inr hx
  · refine Goes.skip ?_
    refine Goes.seq ?_
    refine Goes.region [0] fun K hK => ?_; simp (maxSteps := 4000000) only [go_sem]
    refine ⟨by decide, fun b hb => ⟨⟨hp, by omega, by omega⟩, fun ob hz hf => ?_⟩⟩
    rw [sdel_fresh hb] at hf ⊢
    refine hK _ _ ?_; clear hK K
    refine Goes.ret hC Tryz.func39 (by simp [go_sem]) ?_
    simp only [go_sem]
    exact .inl ⟨ob, ⟨hf, hz⟩, rfl, rfl⟩
theorem plain_file (l : List XFile) : ∀ y ∈ l.map XFile.d, y.cells.length = 2 ∧ y.plain = true := plain_mapF XFile.d 2 (fun _ => ⟨rfl, rfl⟩) l
theorem oget_grd {o oa : Option Nat} {sz s : Nat} {xs ys : List D} {σ : Store} (hgr : GrD o sz xs σ) (hx : oget s oa σ = some ys) : oget s oa (cellsOf o sz xs ++ σ) = some ys := by
  rw [oget_app fun c hc => ?_, hx]
  subst hc
  cases o with
  | none => rfl
  | some k =>
    have hk := hgr.fresh k rfl
    have : c ≠ k := fun e => by
      subst e
      simp only [oget, hk] at hx
      cases hx
    show sget c [(k, _)] = none
    rw [sget_cons, if_neg this]; rfl
theorem concat2_file (oa om : Option Nat) (A M : List XFile) (σ : Store) (ha : oget 2 oa σ = some (A.map XFile.d)) (hm : oget 2 om σ = some (M.map XFile.d)) (hla : A.length ≤ 1000) (hlm : M.length ≤ 1000) :
    ACalls Tryz.prog 41 [.slc [.own oa 2 A.length, .own om 2 M.length]] σ (fun e σ' => ∃ o, GrD o 2 ((A ++ M).map XFile.d) σ ∧ e = .ret (.own o 2 (A ++ M).length) ∧ σ' = cellsOf o 2 ((A ++ M).map XFile.d) ++ σ) := by
  have hg0 : ∀ {α : Type} (x y d : α), [x, y].getD 0 d = x := fun _ _ _ => rfl
  have hg1 : ∀ {α : Type} (x y d : α), [x, y].getD 1 d = y := fun _ _ _ => rfl
  have hA : List.take A.length (A.map XFile.d) = A.map XFile.d := List.take_of_length_le (by simp)
  have hM : List.take M.length (M.map XFile.d) = M.map XFile.d := List.take_of_length_le (by simp)
  have hAl : A.length ≤ (A.map XFile.d).length := by simp
  have hMl : M.length ≤ (M.map XFile.d).length := by simp
  refine ACalls.of_body Tryz.func41 rfl Tryz.ntmps41 (by simp) fun C hC => ?_
  obtain ⟨T, hT⟩ : ∃ T : Nat → List XFile, T = fun i => if i = 0 then [] else if i = 1 then A else A ++ M := ⟨_, rfl⟩
  have hT0 : T 0 = [] := by rw [hT]; rfl
  have hT1 : T 1 = A := by rw [hT]; rfl
  have hT2 : T 2 = A ++ M := by rw [hT]; rfl
  refine Goes.seq ?_
  refine Goes.region [0] fun K hK => ?_; simp (maxSteps := 4000000) only [go_sem]
  refine hK _ _ ?_; clear hK K
  refine Goes.seq ?_
  refine Goes.region [0] fun K hK => ?_; simp (maxSteps := 4000000) only [go_sem]
  refine hK _ _ ?_; clear hK K
  refine Goes.seq ?_
  refine Goes.seq ?_
  refine Goes.region [0, 3] fun K hK => ?_; simp (maxSteps := 4000000) only [go_sem]
  refine hK _ _ ?_; clear hK K
  refine Goes.block ?_
  refine Goes.rebase [0, 3, 9, 10, 11] ?_
  simp only [go_sem]
  refine Goes.while (fun (i : Nat) env' σ'' => (i ≤ 2) ∧ env' = [(0, .slc [.own oa 2 A.length, .own om 2 M.length]), (3, .v (.int .i64 ((T i).length : Int))), (9, .slc [.own oa 2 A.length, .own om 2 M.length]), (10, .v (.int .i64 2)), (11, .v (.int .i64 (i : Int)))] ∧ σ = σ'') (fun (i : Nat) => 2 - i) 0 ⟨by omega, by rw [hT0]; rfl, rfl⟩ ?_
  rintro i env' σ'' ⟨hi, rfl, rfl⟩ ih
  have ih1 := ih
  refine Goes.seq ?_
  refine Goes.region [0, 3, 9, 10, 11] fun K hK => ?_; simp (maxSteps := 4000000) only [go_sem]
  refine hK _ _ ?_; clear hK K
  refine Goes.seq ?_
  refine Goes.cond rfl (fun h12 => ?_) (fun h12 => ?_)
  · have hlt : i < 2 := by
      have := h12
      simp at this; omega
    refine Goes.skip ?_
    refine Goes.seq ?_
    refine Goes.block ?_
    refine Goes.seq ?_
    rcases (show i = 0 ∨ i = 1 by omega) with rfl | rfl
    · refine Goes.region [0, 3, 9, 10, 11] fun K hK => ?_; simp (maxSteps := 4000000) only [go_sem]
      refine ⟨⟨by decide, by decide⟩, ?_⟩
      refine hK _ _ ?_; clear hK K
      refine Goes.seq ?_
      have hw : IntKind.i64.wrap (((T 0).length : Int) + (A.length : Int)) = ((T 1).length : Int) := by
        rw [hT0, hT1, wrap_in _ (by simp only [List.length_nil]; omega) (by simp only [List.length_nil]; omega)]; simp
      have hneg : decide (((T 1).length : Int) < 0) = false := by simp
      refine Goes.region [0, 3, 5, 9, 10, 11] fun K hK => ?_; simp (maxSteps := 4000000) only [go_sem, hw]
      refine hK _ _ ?_; clear hK K
      refine Goes.seq ?_
      refine Goes.region [0, 3, 9, 10, 11] fun K hK => ?_; simp (maxSteps := 4000000) only [go_sem, hneg]
      refine hK _ _ ?_; clear hK K
      refine Goes.condF rfl ?_
      refine Goes.skip ?_
      refine Goes.inBlock ?_
      refine Goes.region [0, 3, 9, 10, 11] fun K hK => ?_; simp (maxSteps := 4000000) only [go_sem]
      refine hK _ _ ?_; clear hK K
      refine Goes.rebase [0, 3, 9, 10, 11] ?_
      simp only [go_sem]
      rw [wrap_succ 0 (by omega)]
      exact ih 1 _ _ ⟨by omega, rfl, rfl⟩ (by omega)
    · refine Goes.region [0, 3, 9, 10, 11] fun K hK => ?_; simp (maxSteps := 4000000) only [go_sem]
      refine ⟨⟨by decide, by decide⟩, ?_⟩
      refine hK _ _ ?_; clear hK K
      refine Goes.seq ?_
      have hw : IntKind.i64.wrap (((T 1).length : Int) + (M.length : Int)) = ((T 2).length : Int) := by
        rw [hT1, hT2, List.length_append, wrap_in _ (by omega) (by omega)]; omega
      have hneg : decide (((T 2).length : Int) < 0) = false := by simp
      refine Goes.region [0, 3, 5, 9, 10, 11] fun K hK => ?_; simp (maxSteps := 4000000) only [go_sem, hw]
      refine hK _ _ ?_; clear hK K
      refine Goes.seq ?_
      refine Goes.region [0, 3, 9, 10, 11] fun K hK => ?_; simp (maxSteps := 4000000) only [go_sem, hneg]
      refine hK _ _ ?_; clear hK K
      refine Goes.condF rfl ?_
      refine Goes.skip ?_
      refine Goes.inBlock ?_
      refine Goes.region [0, 3, 9, 10, 11] fun K hK => ?_; simp (maxSteps := 4000000) only [go_sem]
      refine hK _ _ ?_; clear hK K
      refine Goes.rebase [0, 3, 9, 10, 11] ?_
      simp only [go_sem]
      rw [wrap_succ 1 (by omega)]
      exact ih 2 _ _ ⟨by omega, rfl, rfl⟩ (by omega)
  · have : i = 2 := by
      have := h12
      simp at this; omega
    subst this
    have hTl : (T 2).length ≤ 2000 := by rw [hT2, List.length_append]; omega
    refine Goes.exit rfl ?_
    refine Goes.seq ?_
    refine Goes.region [0, 3] fun K hK => ?_; simp (maxSteps := 4000000) only [go_sem]
    refine ⟨_, Tryz.call76, (grow_file _ σ (by omega) (by omega)).mono ?_⟩
    rintro e σ1 ⟨o, hgr, rfl, rfl⟩
    simp only [go_sem]
    refine hK _ _ ?_; clear hK K
    refine Goes.seq ?_
    refine Goes.seq ?_
    refine Goes.region [0, 6] fun K hK => ?_; simp (maxSteps := 4000000) only [go_sem]
    refine hK _ _ ?_; clear hK K
    refine Goes.block ?_
    refine Goes.rebase [6, 25, 26, 27] ?_
    simp only [go_sem]
    refine Goes.while (fun (i : Nat) env' σ'' => ∃ o : Option Nat, (i ≤ 2 ∧ GrD o 2 ((T i).map XFile.d) σ) ∧ env' = [(6, .own o 2 ((T i).map XFile.d).length), (25, .slc [.own oa 2 A.length, .own om 2 M.length]), (26, .v (.int .i64 2)), (27, .v (.int .i64 (i : Int)))] ∧ σ'' = cellsOf o 2 ((T i).map XFile.d) ++ σ) (fun (i : Nat) => 2 - i) 0 ⟨o, ⟨by omega, by rw [hT0]; exact hgr⟩, by rw [hT0]; rfl, by rw [hT0]; rfl⟩ ?_
    rintro i env' σ'' ⟨o, ⟨hi, hgr⟩, rfl, rfl⟩ ih
    have ih2 := ih
    refine Goes.seq ?_
    refine Goes.region [6, 25, 26, 27] fun K hK => ?_; simp (maxSteps := 4000000) only [go_sem]
    refine hK _ _ ?_; clear hK K
    refine Goes.seq ?_
    refine Goes.cond rfl (fun h28 => ?_) (fun h28 => ?_)
    · have hlt : i < 2 := by
        have := h28
        simp at this; omega
      have ho := hgr.oget
      have hd := hgr.sdel
      have hsa := oget_grd hgr ha
      have hsm := oget_grd hgr hm
      have htk : List.take ((T i).map XFile.d).length ((T i).map XFile.d) = (T i).map XFile.d := List.take_of_length_le (Nat.le_refl _)
      refine Goes.skip ?_
      refine Goes.seq ?_
      refine Goes.block ?_
      refine Goes.seq ?_
      rcases (show i = 0 ∨ i = 1 by omega) with rfl | rfl
      · refine Goes.region [6, 25, 26, 27] fun K hK => ?_; simp (maxSteps := 4000000) only [go_sem]
        refine ⟨⟨by decide, by decide⟩, ?_⟩
        refine hK _ _ ?_; clear hK K
        refine Goes.region [6, 8, 25, 26, 27] fun K hK => ?_; simp (maxSteps := 4000000) only [go_sem, ho, hd, htk, hsa, hsm, hAl, hMl, hA, hM]
        refine ⟨⟨Nat.le_refl _, plain_file A, by simp only [List.length_map, hT0, List.length_nil]; omega, by simp only [List.length_map, hT0, List.length_nil]; omega⟩, fun ob hz hf => ?_⟩
        refine hK _ _ ?_; clear hK K
        refine Goes.inBlock ?_
        refine Goes.region [6, 25, 26, 27] fun K hK => ?_; simp (maxSteps := 4000000) only [go_sem]
        refine hK _ _ ?_; clear hK K
        refine Goes.rebase [6, 25, 26, 27] ?_
        simp only [go_sem]
        have e1 : (T 0).map XFile.d ++ A.map XFile.d = (T 1).map XFile.d := by rw [hT0, hT1]; rfl
        rw [wrap_succ 0 (by omega), e1]
        exact ih 1 _ _ ⟨ob, ⟨by omega, by rw [← e1]; exact hgr.app hz hf⟩, rfl, rfl⟩ (by omega)
      · refine Goes.region [6, 25, 26, 27] fun K hK => ?_; simp (maxSteps := 4000000) only [go_sem]
        refine ⟨⟨by decide, by decide⟩, ?_⟩
        refine hK _ _ ?_; clear hK K
        refine Goes.region [6, 8, 25, 26, 27] fun K hK => ?_; simp (maxSteps := 4000000) only [go_sem, ho, hd, htk, hsa, hsm, hAl, hMl, hA, hM]
        refine ⟨⟨Nat.le_refl _, plain_file M, by simp only [List.length_map, hT1]; omega, by simp only [List.length_map, hT1]; omega⟩, fun ob hz hf => ?_⟩
        refine hK _ _ ?_; clear hK K
        refine Goes.inBlock ?_
        refine Goes.region [6, 25, 26, 27] fun K hK => ?_; simp (maxSteps := 4000000) only [go_sem]
        refine hK _ _ ?_; clear hK K
        refine Goes.rebase [6, 25, 26, 27] ?_
        simp only [go_sem]
        have e1 : (T 1).map XFile.d ++ M.map XFile.d = (T 2).map XFile.d := by rw [hT1, hT2, List.map_append]
        rw [wrap_succ 1 (by omega), e1]
        exact ih 2 _ _ ⟨ob, ⟨by omega, by rw [← e1]; exact hgr.app hz hf⟩, rfl, rfl⟩ (by omega)
    · have : i = 2 := by
        have := h28
        simp at this; omega
      subst this
      rw [hT2] at hgr ⊢
      refine Goes.exit rfl ?_
      refine Goes.seq ?_
      refine Goes.region [6] fun K hK => ?_; simp (maxSteps := 4000000) only [go_sem]
      refine hK _ _ ?_; clear hK K
      refine Goes.ret hC Tryz.func41 (by simp [go_sem]) ?_
      simp only [go_sem]
      exact ⟨o, hgr, by rw [List.length_map], rfl⟩
end Go.Ab.S16
set_option linter.unusedSimpArgs false
set_option linter.unusedVariables false
set_option linter.constructorNameAsVariable false
namespace Go.Ab.S16
open Go Go.Proofs Go.RowKit
def edgeOf (g : XGr) (n : Nat) : XEdge := g.man.edges.getD n ⟨[], [], [], [], ⟨#[]⟩, ⟨#[]⟩⟩
/-- The files that lie for an edge. -/
def filesFor (g : XGr) (l made : List XFile) (n : Nat) : List XFile := kept (farB g n) (kept (ownMadeB g) l ++ made)
/-- What an edge makes; an error's number. -/
def evalStep (g : XGr) (l : List XFile) (n : Nat) (made : List XFile) : Nat ⊕ List XFile :=
  if (edgeOf g n).needs.any (missB g l) = true then .inl 6
  else match cookM (edgeOf g n).cmd ((edgeOf g n).ins ++ (edgeOf g n).impl) (filesFor g l made n) with
    | none => .inl 13
    | some x => if ((x.dep.toList == (edgeOf g n).dep.toList) && fitB (edgeOf g n).outs x.outs) = true then .inr (made ++ x.outs) else .inl 13
def evalGo (g : XGr) (l : List XFile) : List Nat → List XFile → Nat ⊕ List XFile
  | [], made => .inr made
  | n :: r, made => match evalStep g l n made with
    | .inl c => .inl c
    | .inr made' => evalGo g l r made'
def targetsOr (g : XGr) (ts : List ByteArray) : List ByteArray := if ts.length = 0 then targetsL g else ts
/-- What a graph's edges make. -/
def evalG (g : XGr) (l : List XFile) (ts : List ByteArray) : Nat ⊕ List XFile :=
  if wrongB g = true then .inl 5 else match planL g (targetsOr g ts) with
    | .inl c => .inl c
    | .inr plan => if (targetsOr g ts).any (missB g l) = true then .inl 6 else evalGo g l plan []
/-- What a manifest makes. -/
def evalM (m : XMan) (l : List XFile) (ts : List ByteArray) : Nat ⊕ List XFile := match newG m with
  | .inl c => .inl c
  | .inr g => evalG g l ts
theorem orderF_ok (ah : List (List Nat)) (sm : List Nat) : ∀ (f : Nat) (out : List Nat), (∀ n ∈ out, n ∈ sm) → (∀ n ∈ orderF ah sm f out, n ∈ sm) ∧ (orderF ah sm f out).length ≤ out.length + f
  | 0, out, h => ⟨h, Nat.le_refl _⟩
  | f + 1, out, h => by
    unfold orderF
    split
    · rename_i n hn
      have hm := List.mem_of_find?_eq_some hn
      obtain ⟨h1, h2⟩ := orderF_ok ah sm f (out ++ [n]) (fun k hk => by
        rcases List.mem_append.1 hk with hk | hk
        · exact h k hk
        · rw [List.mem_singleton.1 hk]; exact hm)
      refine ⟨h1, ?_⟩
      rw [List.length_append] at h2
      simp at h2
      omega
    · exact ⟨h, by omega⟩
theorem planL_ok {g : XGr} (hg : g.Ok) {ts : List ByteArray} {plan : List Nat} (h : planL g ts = .inr plan) : plan.length ≤ g.man.edges.length ∧ ∀ n ∈ plan, n < g.man.edges.length := by
  unfold planL at h
  split at h
  · cases h
  · cases h
    obtain ⟨h1, h2⟩ := reachedS_ok g.ah (fun l hl => (hg.ab l hl).2) (madeL g.mks ts) (fun n hn => by rw [hg.al]; exact madeL_lt hg.kb ts n hn)
    obtain ⟨h3, h4⟩ := orderF_ok g.ah (reachedS g.ah (madeL g.mks ts)) (reachedS g.ah (madeL g.mks ts)).length [] (fun n hn => by cases hn)
    rw [hg.al] at h1 h2
    refine ⟨?_, fun n hn => h2 n (h3 n hn)⟩
    unfold orderL
    simp at h4
    omega
end Go.Ab.S16
