/- Layer 21: script.Read's loop. -/
import Derived.Test.YtcpcfglccnmmnaaM21a
import Derived.Test.YtcpcfglccnmmnaaAbZ
import Derived.Test.YtcpcfglccnmmnaaS21P
set_option linter.unusedSimpArgs false
set_option linter.unusedVariables false
set_option linter.constructorNameAsVariable false
namespace Go.Ab.S21
open Go Go.Proofs

theorem takeS_suf (s : RS) (n : Nat) : (takeS s n).2.1 <:+ s.1 := by
  unfold takeS
  split
  · exact List.nil_suffix
  · exact List.drop_suffix ..
theorem numR_suf {bs bs' : List UInt8} {n : Int} (h : numR bs = .ok n bs') : bs' <:+ bs := by
  unfold numR at h
  split at h
  · cases h
  · split at h
    · cases h
    · cases h
      exact takeS_suf (bs, false) 4
theorem textR_suf {bs bs' : List UInt8} {s : ByteArray} (h : textR bs = .ok s bs') : bs' <:+ bs := by
  unfold textR at h
  split at h
  · cases h
  · cases h
    exact (takeS_suf (numS (bs, false) 2).2 _).trans (takeS_suf (bs, false) 2)
theorem optR_suf {α : Type} {f : Bool} {g : List UInt8 → Res α} {a0 a : α} {bs bs' : List UInt8} (hg : ∀ a bs', g bs = .ok a bs' → bs' <:+ bs) (h : optR f g a0 bs = .ok a bs') : bs' <:+ bs := by
  unfold optR at h
  split at h
  · exact hg _ _ h
  · cases h; exact List.suffix_refl _
theorem nR_suf {f : Bool} {k n : Int} {bs bs' : List UInt8} (h : nR f k bs = .ok n bs') : bs' <:+ bs := by
  unfold nR at h
  split at h
  · split at h
    · unfold armR at h
      split at h
      · cases h
      · cases h; exact takeS_suf (bs, false) 4
    · exact numR_suf h
  · cases h; exact List.suffix_refl _
theorem many_suf {α : Type} {g : List UInt8 → Res α} (hg : ∀ a bs bs', g bs = .ok a bs' → bs' <:+ bs) : ∀ (n : Nat) {bs bs' : List UInt8} {l : List α}, manyR g n bs = .ok l bs' → bs' <:+ bs
  | 0, bs, bs', l, h => by cases h; exact List.suffix_refl _
  | n + 1, bs, bs', l, h => by
    unfold manyR at h
    cases hx : g bs with
    | err c => rw [hx] at h; cases h
    | ok a b1 =>
      rw [hx] at h
      simp only [Res.bind] at h
      cases hy : manyR g n b1 with
      | err c => rw [hy] at h; cases h
      | ok l2 b2 =>
        rw [hy] at h
        cases h
        exact (many_suf hg n hy).trans (hg _ _ _ hx)
theorem listR_suf {α : Type} {g : List UInt8 → Res α} (hg : ∀ a bs bs', g bs = .ok a bs' → bs' <:+ bs) {bs bs' : List UInt8} {l : List α} (h : listR g bs = .ok l bs') : bs' <:+ bs := by
  unfold listR at h
  cases hx : numR bs with
  | err c => rw [hx] at h; cases h
  | ok n b1 =>
    rw [hx] at h
    exact (many_suf hg _ h).trans (numR_suf hx)
theorem actR_suf {k : Int} {bs bs' : List UInt8} {x : XAct} (h : actR k bs = .ok x bs') : bs' <:+ bs := by
  obtain ⟨f0, f1, f2, f3, f4, kn, hF, _⟩ := fields_cases k
  unfold actR at h
  rw [hF] at h
  simp only [] at h
  split at h
  · cases h
  cases h1 : optR f0 textR ByteArray.empty bs with
  | err c => rw [h1] at h; cases h
  | ok nm b1 =>
  rw [h1] at h
  simp only [Res.bind] at h
  cases h2 : optR f1 textR ByteArray.empty b1 with
  | err c => rw [h2] at h; cases h
  | ok by_ b2 =>
  rw [h2] at h
  simp only [] at h
  cases h3 : nR f2 k b2 with
  | err c => rw [h3] at h; cases h
  | ok n b3 =>
  rw [h3] at h
  simp only [] at h
  cases h4 : optR f3 (listR textR) [] b3 with
  | err c => rw [h4] at h; cases h
  | ok ns b4 =>
  rw [h4] at h
  simp only [] at h
  cases h5 : optR f4 (listR numR) [] b4 with
  | err c => rw [h5] at h; cases h
  | ok ts b5 =>
  rw [h5] at h
  cases h
  have l1 := optR_suf (fun a b h => textR_suf h) h1
  have l2 := optR_suf (fun a b h => textR_suf h) h2
  have l3 := nR_suf h3
  have l4 := optR_suf (fun a b h => listR_suf (fun a b b' h => textR_suf h) h) h4
  have l5 := optR_suf (fun a b h => listR_suf (fun a b b' h => numR_suf h) h) h5
  exact l5.trans (l4.trans (l3.trans (l2.trans l1)))
theorem suf_drop {α : Type} {l l' : List α} (h : l' <:+ l) (x : α) : (x :: l).drop ((x :: l).length - l'.length) = l' := by
  obtain ⟨p, rfl⟩ := h
  have : (x :: (p ++ l')).length - l'.length = (x :: p).length := by simp; omega
  rw [this, ← List.cons_append, List.drop_left]

theorem reads_calls (bb ob : Nat) (bs0 : List UInt8) (hne : ob ≠ bb) (hs : bs0.length < 2 ^ 30) :
    ACalls Try.prog 23 [.ptr bb 1 0 0, .ptr ob 1 0 0] [(ob, .arr 1 [.own none 6 0]), (bb, .arr 1 [.slc (bs0.map bD)])] (fun e σ' => match readR bs0.length bs0 with
      | .err c => e = .panic (wrongP c) ∧ σ' = []
      | .ok l _ => ∃ o, e = .ret (.tup []) ∧ GrD o 6 (l.map XAct.d) [(ob, .arr 1 [.own o 6 l.length])] ∧ σ' = cellsOf o 6 (l.map XAct.d) ++ [(ob, .arr 1 [.own o 6 l.length])]) := by
  refine ACalls.of_body Try.func23 rfl Try.ntmps23 (by simp) fun C hC => ?_
  refine Goes.block ?_
  refine Goes.while (fun (bs : List UInt8) env' σ' => ∃ o li, readR bs0.length bs0 = (readR bs.length bs).bind (fun l b => .ok (li ++ l) b) ∧ li.length + bs.length ≤ bs0.length ∧ env' = [(0, .ptr bb 1 0 0), (1, .ptr ob 1 0 0)] ∧
    GrD o 6 (li.map XAct.d) [(ob, .arr 1 [.own o 6 li.length]), (bb, .arr 1 [.slc (bs.map bD)])] ∧ σ' = cellsOf o 6 (li.map XAct.d) ++ [(ob, .arr 1 [.own o 6 li.length]), (bb, .arr 1 [.slc (bs.map bD)])]) (fun bs => bs.length) bs0
    ⟨none, [], by cases readR bs0.length bs0 <;> rfl, by simp, rfl, GrD.nil _ _, rfl⟩ ?_
  rintro bs env' σ ⟨o, li, hm, hlen, rfl, hgr, rfl⟩ ih
  have gob := hgr.keep (b := ob) (sget_self ..)
  have gbb := hgr.keep (b := bb) (by rw [sget_cons, if_neg hne.symm, sget_self])
  have hl : (bs.map bD).length = bs.length := List.length_map ..
  refine Goes.seq ?_
  refine Goes.seq ?_
  refine Goes.region [0, 1] fun K hK => ?_; simp (maxSteps := 4000000) only [go_sem, ↓reduceIte, reduceCtorEq, Nat.reduceEqDiff, Nat.reduceBEq, Int.reduceBEq, Int.reduceBNe, Nat.reduceLT, Nat.reduceLeDiff, Nat.reduceAdd, Nat.reduceSub, Nat.reduceMul, Int.reduceToNat, Int.reduceEq, Int.reduceLT, Int.reduceLE, gbb]
  refine hK _ _ ?_; clear hK K
  refine Goes.cond rfl (fun hc => ?_) (fun hc => ?_)
  rotate_left
  · have : bs = [] := by
      cases bs with
      | nil => rfl
      | cons c t => simp at hc
    subst this
    repeat' (first | refine Goes.seq ?_ | refine Goes.skip ?_ | refine Goes.inBlock ?_ | refine Goes.block ?_ | refine Goes.exit rfl ?_ | (refine Goes.region [0] fun K hK => ?_; simp (maxSteps := 4000000) only [go_sem, ↓reduceIte, reduceCtorEq, Nat.reduceEqDiff, Nat.reduceBEq, Int.reduceBEq, Int.reduceBNe, Nat.reduceLT, Nat.reduceLeDiff, Nat.reduceAdd, Nat.reduceSub, Nat.reduceMul, Int.reduceToNat, Int.reduceEq, Int.reduceLT, Int.reduceLE]; refine hK _ _ ?_; clear hK K))
    have h1 : ob ≠ bb := hne
    have hdrop : GrD o 6 (li.map XAct.d) [(ob, .arr 1 [.own o 6 li.length])] := ⟨fun c hc => by
      have := hgr.fresh c hc
      rw [sget_cons] at this
      split at this
      · cases this
      · rename_i h; rw [sget_cons, if_neg h]; rfl, hgr.zero⟩
    refine Goes.le (σ' := cellsOf o 6 (li.map XAct.d) ++ [(ob, .arr 1 [.own o 6 li.length])]) (ELe.refl _) ?_ ?_
    · refine SLe.append (SLe.append_left _ _) (SLe.cons gob (SLe.nil _))
    refine Goes.done hC Try.func23 (by simp [go_sem]) ?_
    simp only [go_sem, ↓reduceIte, reduceCtorEq, Nat.reduceEqDiff, Nat.reduceBEq, Int.reduceBEq, Int.reduceBNe, Nat.reduceLT, Nat.reduceLeDiff, Nat.reduceAdd, Nat.reduceSub, Nat.reduceMul, Int.reduceToNat, Int.reduceEq, Int.reduceLT, Int.reduceLE]
    rw [hm]
    simp only [List.length_nil, readR, Res.bind, List.append_nil]
    exact ⟨o, hdrop, rfl⟩
  obtain ⟨c, t, hbs⟩ : ∃ c t, bs = c :: t := by
    cases bs with
    | nil => simp at hc
    | cons c t => exact ⟨c, t, rfl⟩
  refine Goes.skip ?_
  refine Goes.block ?_
  refine Goes.seq ?_
  have hsl : (bs.map bD).drop 1 = t.map bD := by rw [hbs]; rfl
  have hg0 : (bs.map bD).getD 0 D.any = .v (.int .u8 c.toNat) := by rw [hbs]; rfl
  have hbl : bs.length = t.length + 1 := by rw [hbs]; rfl
  have htl : t.length < 2 ^ 30 := by omega
  have h1 : (1 : Int) ≤ ((bs.map bD).length : Int) := by rw [hl, hbl]; omega
  refine Goes.region [0, 1] fun K hK => ?_; simp (maxSteps := 4000000) only [go_sem, ↓reduceIte, reduceCtorEq, Nat.reduceEqDiff, Nat.reduceBEq, Int.reduceBEq, Int.reduceBNe, Nat.reduceLT, Nat.reduceLeDiff, Nat.reduceAdd, Nat.reduceSub, Nat.reduceMul, Int.reduceToNat, Int.reduceEq, Int.reduceLT, Int.reduceLE, gbb, hsl, h1]
  rw [List.take_length, hsl]
  refine ⟨⟨Int.le_refl _, fun x hx => (plain_bD bs x hx).1⟩, _, Try.call24, (new_calls t _ (by omega)).mono ?_⟩
  rintro e σ1 ⟨r, hr, rfl, rfl⟩
  simp only [go_sem, ↓reduceIte, reduceCtorEq, Nat.reduceEqDiff, Nat.reduceBEq, Int.reduceBEq, Int.reduceBNe, Nat.reduceLT, Nat.reduceLeDiff, Nat.reduceAdd, Nat.reduceSub, Nat.reduceMul, Int.reduceToNat, Int.reduceEq, Int.reduceLT, Int.reduceLE]
  intro b2 hb2
  refine hK _ _ ?_; clear hK K
  have hrbb : bb ≠ r := fun e => by subst e; rw [hr] at gbb; cases gbb
  have hrob : ob ≠ r := fun e => by subst e; rw [hr] at gob; cases gob
  have hb2r : b2 ≠ r := fun e => by subst e; simp [rst, sget] at hb2
  have hb20 := hb2
  rw [show rst r (t, false) ++ (cellsOf o 6 (List.map XAct.d li) ++ [(ob, AObj.arr 1 [D.own o 6 li.length]), (bb, AObj.arr 1 [D.slc (List.map bD bs)])]) = (r, _) :: (cellsOf o 6 (List.map XAct.d li) ++ [(ob, AObj.arr 1 [D.own o 6 li.length]), (bb, AObj.arr 1 [D.slc (List.map bD bs)])]) from rfl, sget_cons, if_neg hb2r] at hb20
  have h2bb : bb ≠ b2 := fun e => by subst e; rw [hb20] at gbb; cases gbb
  have h2ob : ob ≠ b2 := fun e => by subst e; rw [hb20] at gob; cases gob
  have hgr2 := hgr.push (x := .arr 1 [.agg [.ptr r 2 0 0]]) hb20
  have hrg : RG r t o 6 (li.map XAct.d) [(b2, .arr 1 [.agg [.ptr r 2 0 0]]), (ob, .arr 1 [.own o 6 li.length]), (bb, .arr 1 [.slc (bs.map bD)])] (rst r (t, false) ++ (cellsOf o 6 (li.map XAct.d) ++ [(b2, .arr 1 [.agg [.ptr r 2 0 0]]), (ob, .arr 1 [.own o 6 li.length]), (bb, .arr 1 [.slc (bs.map bD)])])) :=
    ⟨⟨rfl, none_of_sle hgr2.2 (by rw [sget_cons, if_neg hb2r.symm]; exact hr)⟩, hgr2.1⟩
  refine Goes.le (σ' := rst r (t, false) ++ (cellsOf o 6 (li.map XAct.d) ++ [(b2, .arr 1 [.agg [.ptr r 2 0 0]]), (ob, .arr 1 [.own o 6 li.length]), (bb, .arr 1 [.slc (bs.map bD)])])) (ELe.refl _) ?_ ?_
  · refine SLe.append (SLe.cons ?_ (SLe.nil _)) (SLe.trans hgr2.2 (SLe.cons (sget_self ..) ?_))
    · rw [sget_cons, if_neg hb2r.symm]; exact sget_self ..
    · exact sle_cons (sle_cons (SLe.refl _) hr) hb20
  clear hgr2 hgr gbb gob hb2 hb20 hr
  generalize hσ : rst r (t, false) ++ (cellsOf o 6 (li.map XAct.d) ++ [(b2, .arr 1 [.agg [.ptr r 2 0 0]]), (ob, .arr 1 [.own o 6 li.length]), (bb, .arr 1 [.slc (bs.map bD)])]) = σ at hrg ⊢
  clear hσ
  have g2 := hrg.keep (b := b2) (sget_self ..)
  have gob := hrg.keep (b := ob) (by rw [sget_cons, if_neg h2ob, sget_self])
  have gbb := hrg.keep (b := bb) (by rw [sget_cons, if_neg h2bb, sget_cons, if_neg hne.symm, sget_self])
  refine Goes.seq ?_
  have h0 : (0 : Int) < ((bs.map bD).length : Int) := by rw [hl, hbl]; omega
  refine Goes.draw [0, 1, 2] [16] [ob, b2, bb] [8] [(0, true), (1, true), (2, true), (3, true), (4, true), (5, false), (6, true), (7, false), (8, false)] (by kernel_rfl) (by decide) (by kernel_rfl) fun K hK => ?_; simp (maxSteps := 4000000) only [go_sem, ↓reduceIte, reduceCtorEq, Nat.reduceEqDiff, Nat.reduceBEq, Int.reduceBEq, Int.reduceBNe, Nat.reduceLT, Nat.reduceLeDiff, Nat.reduceAdd, Nat.reduceSub, Nat.reduceMul, Int.reduceToNat, Int.reduceEq, Int.reduceLT, Int.reduceLE, g2, gob, gbb, hg0, h0]
  have hk255 : c.toNat < 256 := c.toNat_lt
  refine ⟨_, Try.call25, (hrg.rt.res (ract_calls r c.toNat t (by omega) (by omega) (by omega))).mono ?_⟩
  intro e σ2 hR
  have hmb : readR bs0.length bs0 = (readR (c :: t).length (c :: t)).bind (fun l b => .ok (li ++ l) b) := by rw [hm, hbs]
  cases hx : actR c.toNat t with
  | err ec =>
    rw [hx] at hR
    obtain ⟨rfl, rfl⟩ := hR
    simp only [go_sem, ↓reduceIte, reduceCtorEq, Nat.reduceEqDiff, Nat.reduceBEq, Int.reduceBEq, Int.reduceBNe, Nat.reduceLT, Nat.reduceLeDiff, Nat.reduceAdd, Nat.reduceSub, Nat.reduceMul, Int.reduceToNat, Int.reduceEq, Int.reduceLT, Int.reduceLE]
    have := readR_err hmb hx
    refine (Pan.of hC Try.func23 ?_).le (SLe.nil _)
    rw [this]
    exact ⟨rfl, rfl⟩
  | ok x bs' =>
  rw [hx] at hR
  obtain ⟨rfl, rt2⟩ := hR
  have hrg2 : RG r bs' o 6 (li.map XAct.d) _ σ2 := ⟨rt2, hrg.gr⟩
  have g22 := hrg2.keep (b := b2) (sget_self ..)
  have gob2 := hrg2.keep (b := ob) (by rw [sget_cons, if_neg h2ob, sget_self])
  have gbb2 := hrg2.keep (b := bb) (by rw [sget_cons, if_neg h2bb, sget_cons, if_neg hne.symm, sget_self])
  have ho2 := hrg2.oget
  have hd2 := hrg2.sdel
  have hml : (li.map XAct.d).length = li.length := List.length_map ..
  have htk : List.take li.length (li.map XAct.d) = li.map XAct.d := List.take_of_length_le (by omega)
  refine ⟨fun b hb => ?_, ?_⟩
  · rcases hb with rfl | rfl | rfl
    · rw [gob2, gob]
    · rw [g22, g2]
    · rw [gbb2, gbb]
  have hxc : x.d.cells.length = 6 := rfl
  have hxp : x.d.plain = true := rfl
  simp only [go_sem, ↓reduceIte, reduceCtorEq, Nat.reduceEqDiff, Nat.reduceBEq, Int.reduceBEq, Int.reduceBNe, Nat.reduceLT, Nat.reduceLeDiff, Nat.reduceAdd, Nat.reduceSub, Nat.reduceMul, Int.reduceToNat, Int.reduceEq, Int.reduceLT, Int.reduceLE, ho2, hd2, htk, hml, gob2, hxc, hxp]
  refine ⟨by decide, ⟨by omega, fun y hy => by rw [hy]; exact ⟨rfl, rfl⟩, by omega, by omega⟩, fun oc hz hf2 => ?_⟩
  obtain ⟨hkeep, hnx⟩ := hrg2.next (x := x.d) hz hf2
  obtain ⟨hle3, hrg3⟩ := hnx ob _ (.arr 1 [.own oc 6 (li.length + 1)]) (by rw [sget_cons, if_neg h2ob, sget_self])
  have hAb2 := hkeep b2 _ (sget_self ..)
  have hAob := hkeep ob _ (by rw [sget_cons, if_neg h2ob, sget_self])
  have hAbb := hkeep bb _ (by rw [sget_cons, if_neg h2bb, sget_cons, if_neg hne.symm, sget_self])
  have hss : sset ob (.arr 1 [.own oc 6 (li.length + 1)]) [(b2, .arr 1 [.agg [.ptr r 2 0 0]]), (ob, .arr 1 [.own o 6 li.length]), (bb, .arr 1 [.slc (bs.map bD)])] = [(b2, .arr 1 [.agg [.ptr r 2 0 0]]), (ob, .arr 1 [.own oc 6 (li.length + 1)]), (bb, .arr 1 [.slc (bs.map bD)])] := by
    rw [sset_ne h2ob, sset_self]
  rw [hss] at hle3 hrg3
  refine ⟨fun b hb => ?_, ?_⟩
  · rcases hb with rfl | rfl | rfl
    · rw [hAob, gob2]
    · rw [hAb2, g22]
    · rw [hAbb, gbb2]
  generalize hAA : cellsOf oc 6 (List.map XAct.d li ++ [x.d]) ++ (rst r (bs', false) ++ [(b2, AObj.arr 1 [D.agg [D.ptr r 2 0 0]]), (ob, AObj.arr 1 [D.own o 6 li.length]), (bb, AObj.arr 1 [D.slc (List.map bD bs)])]) = A at *
  have hml2 : (List.map XAct.d li ++ [x.d]).length = li.length + 1 := by simp
  simp only [go_sem, ↓reduceIte, reduceCtorEq, Nat.reduceEqDiff, Nat.reduceBEq, Int.reduceBEq, Int.reduceBNe, Nat.reduceLT, Nat.reduceLeDiff, Nat.reduceAdd, Nat.reduceSub, Nat.reduceMul, Int.reduceToNat, Int.reduceEq, Int.reduceLT, Int.reduceLE, hAob, hml2]
  refine hK _ _ (Goes.le (ELe.refl _) hle3 ?_); clear hK K
  generalize hσ3 : rst r (bs', false) ++ (cellsOf oc 6 (List.map XAct.d li ++ [x.d]) ++ [(b2, AObj.arr 1 [D.agg [D.ptr r 2 0 0]]), (ob, AObj.arr 1 [D.own oc 6 (li.length + 1)]), (bb, AObj.arr 1 [D.slc (List.map bD bs)])]) = σ3 at hrg3 ⊢
  have g23 := hrg3.keep (b := b2) (sget_self ..)
  have gob3 := hrg3.keep (b := ob) (by rw [sget_cons, if_neg h2ob, sget_self])
  have gbb3 := hrg3.keep (b := bb) (by rw [sget_cons, if_neg h2bb, sget_cons, if_neg hne.symm, sget_self])
  refine Goes.draw [0, 1, 2] [] [bb, b2] [8] [(0, true), (1, true), (2, true), (3, true), (4, true), (5, false), (6, true), (7, true), (8, false)] (by kernel_rfl) (by decide) (by kernel_rfl) fun K hK => ?_; simp (maxSteps := 4000000) only [go_sem, ↓reduceIte, reduceCtorEq, Nat.reduceEqDiff, Nat.reduceBEq, Int.reduceBEq, Int.reduceBNe, Nat.reduceLT, Nat.reduceLeDiff, Nat.reduceAdd, Nat.reduceSub, Nat.reduceMul, Int.reduceToNat, Int.reduceEq, Int.reduceLT, Int.reduceLE, g23, gob3, gbb3, hl]
  refine ⟨_, Try.call26, (hrg3.rt.lift (left_calls r (bs', false))).mono ?_⟩
  rintro e σ4 ⟨rfl, rt4⟩
  have hrg4 : RG r bs' oc 6 (List.map XAct.d li ++ [x.d]) _ σ4 := ⟨rt4, hrg3.gr⟩
  have g24 := hrg4.keep (b := b2) (sget_self ..)
  have gbb4 := hrg4.keep (b := bb) (by rw [sget_cons, if_neg h2bb, sget_cons, if_neg hne.symm, sget_self])
  have hsuf := actR_suf hx
  have hbl' : bs'.length ≤ t.length := hsuf.length_le
  have hdrop : (bs.map bD).drop (bs.length - bs'.length) = bs'.map bD := by rw [← List.map_drop, hbs, suf_drop hsuf]
  have hsub : IntKind.i64.wrap ((bs.length : Int) - (bs'.length : Int)) = ((bs.length - bs'.length : Nat) : Int) := by
    rw [wrap_in _ (by omega) (by omega)]; omega
  have hsub0 : (0 : Int) ≤ ((bs.length - bs'.length : Nat) : Int) := by omega
  have hsub1 : ((bs.length - bs'.length : Nat) : Int) ≤ (bs.length : Int) := by omega
  refine ⟨fun b hb => ?_, ?_⟩
  · rcases hb with rfl | rfl
    · rw [gbb4, gbb3]
    · rw [g24, g23]
  simp only [go_sem, ↓reduceIte, reduceCtorEq, Nat.reduceEqDiff, Nat.reduceBEq, Int.reduceBEq, Int.reduceBNe, Nat.reduceLT, Nat.reduceLeDiff, Nat.reduceAdd, Nat.reduceSub, Nat.reduceMul, Int.reduceToNat, Int.reduceEq, Int.reduceLT, Int.reduceLE, gbb4, hl, hsub, hsub0, hsub1, Int.toNat_natCast, hdrop]
  rw [List.take_of_length_le (by omega : (bs.map bD).length ≤ bs.length), hdrop]
  refine ⟨⟨Int.le_refl _, fun x hx => (plain_bD bs x hx).1⟩, hK _ _ ?_⟩; clear hK K
  have gob4 := hrg4.keep (b := ob) (by rw [sget_cons, if_neg h2ob, sget_self])
  have hnb : ∀ b, oc = some b → b ≠ bb ∧ b ≠ ob := fun b hb => by
    have := hrg4.gr.fresh b hb
    rw [sget_cons] at this
    split at this
    · cases this
    · rw [sget_cons] at this
      split at this
      · cases this
      · rename_i q
        rw [sget_cons] at this
        split at this
        · cases this
        · rename_i q2; exact ⟨q2, q⟩
  have hgr5 : GrD oc 6 ((li ++ [x]).map XAct.d) [(ob, .arr 1 [.own oc 6 (li.length + 1)]), (bb, .arr 1 [.slc (bs'.map bD)])] := by
    rw [List.map_append]
    refine ⟨fun b hb => ?_, hrg4.gr.zero⟩
    rw [sget_cons, if_neg (hnb b hb).2, sget_cons, if_neg (hnb b hb).1]; rfl
  have hle5 : SLe (cellsOf oc 6 ((li ++ [x]).map XAct.d) ++ [(ob, .arr 1 [.own oc 6 (li.length + 1)]), (bb, .arr 1 [.slc (bs'.map bD)])]) (sset bb (.arr 1 [.slc (bs'.map bD)]) σ4) := by
    rw [List.map_append]
    refine SLe.append ?_ (SLe.cons ?_ (SLe.cons ?_ (SLe.nil _)))
    · cases oc with
      | none => exact SLe.nil _
      | some b =>
        refine SLe.cons ?_ (SLe.nil _)
        rw [sget_sset, if_neg (hnb b rfl).1, hrg4.rt.eq]
        show sget b ((r, _) :: (b, _) :: _) = _
        rw [sget_cons, if_neg (fun e => hrg4.or (by rw [e])), sget_self]; rfl
    · rw [sget_sset, if_neg hne, gob4]
    · rw [sget_sset, if_pos rfl, gbb4]; rfl
  refine Goes.le (ELe.refl _) hle5 ?_
  repeat' (first | refine Goes.seq ?_ | refine Goes.skip ?_ | refine Goes.inBlock ?_ | refine Goes.block ?_ | refine Goes.exit rfl ?_ | (refine Goes.region [0, 1] fun K hK => ?_; simp (maxSteps := 4000000) only [go_sem, ↓reduceIte, reduceCtorEq, Nat.reduceEqDiff, Nat.reduceBEq, Int.reduceBEq, Int.reduceBNe, Nat.reduceLT, Nat.reduceLeDiff, Nat.reduceAdd, Nat.reduceSub, Nat.reduceMul, Int.reduceToNat, Int.reduceEq, Int.reduceLT, Int.reduceLE]; refine hK _ _ ?_; clear hK K))
  refine Goes.rebase [0, 1] ?_
  simp only [go_sem, ↓reduceIte, reduceCtorEq, Nat.reduceEqDiff, Nat.reduceBEq, Int.reduceBEq, Int.reduceBNe, Nat.reduceLT, Nat.reduceLeDiff, Nat.reduceAdd, Nat.reduceSub, Nat.reduceMul, Int.reduceToNat, Int.reduceEq, Int.reduceLT, Int.reduceLE]
  refine ih bs' _ _ ⟨oc, li ++ [x], readR_step hmb hx, by simp; omega, rfl, by simpa using hgr5, by simp⟩ (by omega)
end Go.Ab.S21

/- Layer 21: script.Read. -/
namespace Go.Ab.S21
open Go Go.Proofs

theorem numR_errs {bs : List UInt8} {c : Int} (h : numR bs = .err c) : c = 2 ∨ c = 4 := by
  unfold numR at h
  split at h
  · cases h; exact .inl rfl
  · split at h
    · cases h; exact .inr rfl
    · cases h
theorem textR_errs {bs : List UInt8} {c : Int} (h : textR bs = .err c) : c = 2 ∨ c = 4 := by
  unfold textR at h
  split at h
  · cases h; exact .inl rfl
  · cases h
theorem optR_errs {α : Type} {f : Bool} {g : List UInt8 → Res α} {a0 : α} {bs : List UInt8} {c : Int} (hg : ∀ c, g bs = .err c → c = 2 ∨ c = 4) (h : optR f g a0 bs = .err c) : c = 2 ∨ c = 4 := by
  unfold optR at h
  split at h
  · exact hg _ h
  · cases h
theorem nR_errs {f : Bool} {k c : Int} {bs : List UInt8} (h : nR f k bs = .err c) : c = 2 ∨ c = 4 := by
  unfold nR at h
  split at h
  · split at h
    · unfold armR at h
      split at h
      · cases h; exact .inl rfl
      · cases h
    · exact numR_errs h
  · cases h
theorem many_errs {α : Type} {g : List UInt8 → Res α} {c : Int} (hg : ∀ c bs, g bs = .err c → c = 2 ∨ c = 4) : ∀ (n : Nat) {bs : List UInt8}, manyR g n bs = .err c → c = 2 ∨ c = 4
  | 0, bs, h => by cases h
  | n + 1, bs, h => by
    unfold manyR at h
    cases hx : g bs with
    | err e => rw [hx] at h; cases h; exact hg _ _ hx
    | ok a b1 =>
      rw [hx] at h
      simp only [Res.bind] at h
      cases hy : manyR g n b1 with
      | err e => rw [hy] at h; cases h; exact many_errs hg n hy
      | ok l2 b2 => rw [hy] at h; cases h
theorem listR_errs {α : Type} {g : List UInt8 → Res α} {c : Int} (hg : ∀ c bs, g bs = .err c → c = 2 ∨ c = 4) {bs : List UInt8} (h : listR g bs = .err c) : c = 2 ∨ c = 4 := by
  unfold listR at h
  cases hx : numR bs with
  | err e => rw [hx] at h; cases h; exact numR_errs hx
  | ok n b1 => rw [hx] at h; exact many_errs hg _ h
theorem actR_errs {k c : Int} {bs : List UInt8} (h : actR k bs = .err c) : c = 2 ∨ c = 4 := by
  obtain ⟨f0, f1, f2, f3, f4, kn, hF, _⟩ := fields_cases k
  unfold actR at h
  rw [hF] at h
  simp only [] at h
  split at h
  · cases h; exact .inr rfl
  cases h1 : optR f0 textR ByteArray.empty bs with
  | err e => rw [h1] at h; cases h; exact optR_errs (fun c h => textR_errs h) h1
  | ok nm b1 =>
  rw [h1] at h
  simp only [Res.bind] at h
  cases h2 : optR f1 textR ByteArray.empty b1 with
  | err e => rw [h2] at h; cases h; exact optR_errs (fun c h => textR_errs h) h2
  | ok by_ b2 =>
  rw [h2] at h
  simp only [] at h
  cases h3 : nR f2 k b2 with
  | err e => rw [h3] at h; cases h; exact nR_errs h3
  | ok n b3 =>
  rw [h3] at h
  simp only [] at h
  cases h4 : optR f3 (listR textR) [] b3 with
  | err e => rw [h4] at h; cases h; exact optR_errs (fun c h => listR_errs (fun c b h => textR_errs h) h) h4
  | ok ns b4 =>
  rw [h4] at h
  simp only [] at h
  cases h5 : optR f4 (listR numR) [] b4 with
  | err e => rw [h5] at h; cases h; exact optR_errs (fun c h => listR_errs (fun c b h => numR_errs h) h) h5
  | ok ts b5 => rw [h5] at h; cases h
theorem readR_errs : ∀ (n : Nat) {bs : List UInt8} {c : Int}, readR n bs = .err c → c = 2 ∨ c = 4
  | _, [], _, h => by simp [readR] at h
  | 0, _ :: _, _, h => by simp [readR] at h
  | n + 1, c :: t, e, h => by
    rw [readR] at h
    cases hx : actR c.toNat t with
    | err e => rw [hx] at h; cases h; exact actR_errs hx
    | ok x bs =>
      rw [hx] at h
      simp only [Res.bind] at h
      cases hy : readR n bs with
      | err e => rw [hy] at h; cases h; exact readR_errs n hy
      | ok l b => rw [hy] at h; cases h

/-- What script.Read answers. -/
def readE (x : Res (List XAct)) : AEnd := match x with
  | .err c => .ret (.tup [.slc [], .v (.int .i64 c)])
  | .ok l _ => .ret (.tup [actsD l, .v (.int .i64 0)])

/-- script.Read: the acts of bytes, or an error. -/
theorem read_calls (bs : List UInt8) (σ : Store) (hs : bs.length < 2 ^ 30) :
    ACalls Try.prog 13 [.slc (bs.map bD)] σ (fun e σ' => e = readE (readR bs.length bs) ∧ σ' = σ) := by
  have hbase : ACalls Try.prog 13 [.slc (bs.map bD)] [] (fun e σ' => match readR bs.length bs with
      | .err c => e = .ret (.tup [.v (.slice none 0 0), .v (.int .i64 c)]) ∧ σ' = []
      | .ok l _ => ∃ o, e = .ret (.tup [.own o 6 l.length, .v (.int .i64 0)]) ∧ (o = none → l = []) ∧ σ' = cellsOf o 6 (l.map XAct.d)) := by
    refine ACalls.of_body Try.func13 rfl Try.ntmps13 (by simp) fun C hC => ?_
    refine Goes.seq ?_
    refine Goes.region [0] fun K hK => ?_; simp (maxSteps := 4000000) only [go_sem, ↓reduceIte, reduceCtorEq, Nat.reduceEqDiff, Nat.reduceBEq, Int.reduceBEq, Int.reduceBNe, Nat.reduceLT, Nat.reduceLeDiff, Nat.reduceAdd, Nat.reduceSub, Nat.reduceMul, Int.reduceToNat, Int.reduceEq, Int.reduceLT, Int.reduceLE]
    intro bb
    refine hK _ _ ?_; clear hK K
    refine Goes.seq ?_
    refine Goes.region [1, 2, 3] fun K hK => ?_; simp (maxSteps := 4000000) only [go_sem, ↓reduceIte, reduceCtorEq, Nat.reduceEqDiff, Nat.reduceBEq, Int.reduceBEq, Int.reduceBNe, Nat.reduceLT, Nat.reduceLeDiff, Nat.reduceAdd, Nat.reduceSub, Nat.reduceMul, Int.reduceToNat, Int.reduceEq, Int.reduceLT, Int.reduceLE]
    intro ob hob
    have hne : ob ≠ bb := fun e => by subst e; rw [sget_self] at hob; cases hob
    refine hK _ _ ?_; clear hK K
    refine Goes.row_le (ys := [.own none 6 0]) (fun w S vs h => ?_) (fun y hy => by simp at hy; rw [hy]; rfl) ?_
    · obtain ⟨x, xs, rfl, hx, ht⟩ := h.cons_inv
      exact .cons (DLe.nil_own 6 _ _ _ hx) ht
    have hrd := reads_calls bb ob bs hne hs
    generalize hσ : ([(ob, .arr 1 [.own none 6 0]), (bb, .arr 1 [.slc (bs.map bD)])] : Store) = σw at hrd
    refine Goes.seq ?_
    refine Goes.region [1, 2, 3, 4] fun K hK => ?_; simp (maxSteps := 4000000) only [go_sem, ↓reduceIte, reduceCtorEq, Nat.reduceEqDiff, Nat.reduceBEq, Int.reduceBEq, Int.reduceBNe, Nat.reduceLT, Nat.reduceLeDiff, Nat.reduceAdd, Nat.reduceSub, Nat.reduceMul, Int.reduceToNat, Int.reduceEq, Int.reduceLT, Int.reduceLE, hσ]
    refine ⟨_, Try.call16, guarded_calls 23 _ _ Try.call23 hrd fun e σ' hR => ?_⟩
    clear hrd hσ
    cases hx : readR bs.length bs with
    | err c =>
      rw [hx] at hR
      obtain ⟨rfl, rfl⟩ := hR
      refine .inr ⟨_, rfl, ?_⟩
      simp only [go_sem, ↓reduceIte, reduceCtorEq, Nat.reduceEqDiff, Nat.reduceBEq, Int.reduceBEq, Int.reduceBNe, Nat.reduceLT, Nat.reduceLeDiff, Nat.reduceAdd, Nat.reduceSub, Nat.reduceMul, Int.reduceToNat, Int.reduceEq, Int.reduceLT, Int.reduceLE]
      refine hK _ _ ?_; clear hK K
      repeat' (first | refine Goes.seq ?_ | refine Goes.skip ?_ | refine Goes.inBlock ?_ | refine Goes.block ?_ | refine Goes.exit rfl ?_ | (refine Goes.region [2, 3, 4, 5] fun K hK => ?_; simp (maxSteps := 4000000) only [go_sem, ↓reduceIte, reduceCtorEq, Nat.reduceEqDiff, Nat.reduceBEq, Int.reduceBEq, Int.reduceBNe, Nat.reduceLT, Nat.reduceLeDiff, Nat.reduceAdd, Nat.reduceSub, Nat.reduceMul, Int.reduceToNat, Int.reduceEq, Int.reduceLT, Int.reduceLE]; refine hK _ _ ?_; clear hK K))
      have hc : c ≠ 0 := by rcases readR_errs _ hx with h | h <;> omega
      have hb : (c != 0) = true := by simpa using hc
      refine Goes.cond rfl (fun _ => ?_) (fun h => by rw [hb] at h; cases h)
      refine Goes.seq ?_
      refine Goes.region [5] fun K hK => ?_; simp (maxSteps := 4000000) only [go_sem, ↓reduceIte, reduceCtorEq, Nat.reduceEqDiff, Nat.reduceBEq, Int.reduceBEq, Int.reduceBNe, Nat.reduceLT, Nat.reduceLeDiff, Nat.reduceAdd, Nat.reduceSub, Nat.reduceMul, Int.reduceToNat, Int.reduceEq, Int.reduceLT, Int.reduceLE]
      refine hK _ _ ?_; clear hK K
      refine Goes.ret hC Try.func13 (by simp [go_sem]) ?_
      simp only [go_sem, ↓reduceIte, reduceCtorEq, Nat.reduceEqDiff, Nat.reduceBEq, Int.reduceBEq, Int.reduceBNe, Nat.reduceLT, Nat.reduceLeDiff, Nat.reduceAdd, Nat.reduceSub, Nat.reduceMul, Int.reduceToNat, Int.reduceEq, Int.reduceLT, Int.reduceLE]
      rw [hx]
    | ok l b =>
      rw [hx] at hR
      obtain ⟨o, rfl, hgr, rfl⟩ := hR
      have gob := hgr.keep (b := ob) (sget_self ..)
      refine .inl ⟨rfl, ?_⟩
      simp only [go_sem, ↓reduceIte, reduceCtorEq, Nat.reduceEqDiff, Nat.reduceBEq, Int.reduceBEq, Int.reduceBNe, Nat.reduceLT, Nat.reduceLeDiff, Nat.reduceAdd, Nat.reduceSub, Nat.reduceMul, Int.reduceToNat, Int.reduceEq, Int.reduceLT, Int.reduceLE]
      refine hK _ _ ?_; clear hK K
      repeat' (first | refine Goes.seq ?_ | refine Goes.skip ?_ | refine Goes.inBlock ?_ | refine Goes.block ?_ | refine Goes.exit rfl ?_ | (refine Goes.region [2, 3, 4, 5] fun K hK => ?_; simp (maxSteps := 4000000) only [go_sem, ↓reduceIte, reduceCtorEq, Nat.reduceEqDiff, Nat.reduceBEq, Int.reduceBEq, Int.reduceBNe, Nat.reduceLT, Nat.reduceLeDiff, Nat.reduceAdd, Nat.reduceSub, Nat.reduceMul, Int.reduceToNat, Int.reduceEq, Int.reduceLT, Int.reduceLE]; refine hK _ _ ?_; clear hK K))
      refine Goes.condF rfl ?_
      refine Goes.skip ?_
      refine Goes.seq ?_
      refine Goes.region [2, 3, 4] fun K hK => ?_; simp (maxSteps := 4000000) only [go_sem, ↓reduceIte, reduceCtorEq, Nat.reduceEqDiff, Nat.reduceBEq, Int.reduceBEq, Int.reduceBNe, Nat.reduceLT, Nat.reduceLeDiff, Nat.reduceAdd, Nat.reduceSub, Nat.reduceMul, Int.reduceToNat, Int.reduceEq, Int.reduceLT, Int.reduceLE, gob]
      refine hK _ _ ?_; clear hK K
      refine Goes.le (σ' := cellsOf o 6 (l.map XAct.d)) (ELe.refl _) (SLe.append_left _ _) ?_
      refine Goes.ret hC Try.func13 (by simp [go_sem]) ?_
      simp only [go_sem, ↓reduceIte, reduceCtorEq, Nat.reduceEqDiff, Nat.reduceBEq, Int.reduceBEq, Int.reduceBNe, Nat.reduceLT, Nat.reduceLeDiff, Nat.reduceAdd, Nat.reduceSub, Nat.reduceMul, Int.reduceToNat, Int.reduceEq, Int.reduceLT, Int.reduceLE]
      rw [hx]
      exact ⟨o, rfl, fun e => by simpa using hgr.zero e, rfl⟩
  refine ACalls.pub1 (R := fun e σ' => match readR bs.length bs with
      | .err c => e = .ret (.tup [.slc [], .v (.int .i64 c)]) ∧ σ' = []
      | .ok l _ => (e = .ret (.tup [actsD l, .v (.int .i64 0)]) ∧ σ' = []) ∨ ∃ b, e = .ret (.tup [.own (some b) 6 l.length, .v (.int .i64 0)]) ∧ σ' = [(b, .arr 6 (l.map XAct.d))]) ?_ (fun e σ' hR => ?_) σ
  · refine hbase.ret_le fun e σ' hR => ?_
    cases hx : readR bs.length bs with
    | err c =>
      rw [hx] at hR
      obtain ⟨rfl, rfl⟩ := hR
      refine .inr ⟨_, _, rfl, fun w S v h => ?_, rfl, rfl⟩
      cases h with
      | tup h =>
        obtain ⟨a0, r0, rfl, q0, h⟩ := h.cons_inv
        exact .tup (.cons (DLe.nil_slc _ _ _ q0) h)
    | ok l b =>
      rw [hx] at hR
      obtain ⟨o, rfl, hz, rfl⟩ := hR
      cases o with
      | none =>
        have := hz rfl
        subst this
        refine .inr ⟨_, .tup [actsD [], .v (.int .i64 0)], rfl, fun w S v h => ?_, .inl ⟨rfl, rfl⟩⟩
        cases h with
        | tup h =>
          obtain ⟨a0, r0, rfl, q0, h⟩ := h.cons_inv
          exact .tup (.cons (DLe.own_slc _ _ _ _ _ q0) h)
      | some b => exact .inl (.inr ⟨b, rfl, rfl⟩)
  · cases hx : readR bs.length bs with
    | err c =>
      rw [hx] at hR
      exact .inl hR
    | ok l b =>
      rw [hx] at hR
      rcases hR with hR | ⟨b, rfl, rfl⟩
      · exact .inl hR
      · refine .inr ⟨_, b, 6, _, rfl, rfl, ?_⟩
        simp only [D.pub, pubs, true_and, List.length_map, Nat.le_refl, if_true]
        rw [List.take_of_length_le (by simp)]
        rfl
end Go.Ab.S21

/- Layer 21: the document's reader: Take, Value. -/
namespace Go.Ab.S21
open Go Go.Proofs

/-- The row of the document's reader. -/
def frst (r : Nat) (B : List UInt8) (a : Nat) (bad : Bool) : Store := [(r, .arr 3 [.agg [.slc (B.map bD), .v (.int .i64 a), .v (.bool bad)]])]

theorem ftake_calls (r : Nat) (B : List UInt8) (a : Nat) (bad : Bool) (n : Nat) (ha : a ≤ B.length) (hB : B.length < 2 ^ 38) (hn : n < 2 ^ 38) :
    ACalls Try.prog 42 [.ptr r 3 0 0, .v (.int .i64 n)] (frst r B a bad)
      (fun e σ' => if bad = true ∨ B.length - a < n then e = .ret (.tup [.slc [], .v (.bool false)]) ∧ σ' = frst r B a true else e = .ret (.tup [.slc (((B.drop a).take n).map bD), .v (.bool true)]) ∧ σ' = frst r B (a + n) false) := by
  have hlb : (B.map bD).length = B.length := List.length_map ..
  have hr : sget r (frst r B a bad) = some (.arr 3 [.agg [.slc (B.map bD), .v (.int .i64 a), .v (.bool bad)]]) := sget_self ..
  refine ACalls.ret_le (R := fun e σ' => if bad = true ∨ B.length - a < n then e = .ret (.tup [.v (.slice none 0 0), .v (.bool false)]) ∧ σ' = frst r B a true else e = .ret (.tup [.slc (((B.drop a).take n).map bD), .v (.bool true)]) ∧ σ' = frst r B (a + n) false) ?_ fun e σ' h => ?_
  rotate_left
  · split at h
    · rename_i hc
      obtain ⟨rfl, rfl⟩ := h
      refine .inr ⟨_, .tup [.slc [], .v (.bool false)], rfl, fun w S v h => ?_, ?_⟩
      · cases h with
        | tup h =>
          obtain ⟨a0, r0, rfl, q0, h⟩ := h.cons_inv
          exact .tup (.cons (DLe.nil_slc _ _ _ q0) h)
      · rw [if_pos hc]; exact ⟨rfl, rfl⟩
    · rename_i hc
      rw [if_neg hc]; exact .inl h
  refine ACalls.of_body Try.func42 rfl Try.ntmps42 (by simp) fun C hC => ?_
  refine Goes.seq ?_
  refine Goes.region [0, 1] fun K hK => ?_; simp (maxSteps := 4000000) only [go_sem, ↓reduceIte, reduceCtorEq, Nat.reduceEqDiff, Nat.reduceBEq, Int.reduceBEq, Int.reduceBNe, Nat.reduceLT, Nat.reduceLeDiff, Nat.reduceAdd, Nat.reduceSub, Nat.reduceMul, Int.reduceToNat, Int.reduceEq, Int.reduceLT, Int.reduceLE]
  refine hK _ _ ?_; clear hK K
  have bad' : bad = true ∨ B.length - a < n → ∀ k' env σ, eget 0 env = .ptr r 3 0 0 → σ = frst r B a bad → Goes C (.code (codeAt (bodyAt Try.f42 [1, 0]) [1, 0]) :: k') env σ := fun hc k' env σ e0 hσ => by
    subst hσ
    refine Goes.seq ?_
    refine Goes.region [0] fun K hK => ?_; simp (maxSteps := 4000000) only [go_sem, ↓reduceIte, reduceCtorEq, Nat.reduceEqDiff, Nat.reduceBEq, Int.reduceBEq, Int.reduceBNe, Nat.reduceLT, Nat.reduceLeDiff, Nat.reduceAdd, Nat.reduceSub, Nat.reduceMul, Int.reduceToNat, Int.reduceEq, Int.reduceLT, Int.reduceLE, e0, hr, frst]
    refine hK _ _ ?_; clear hK K
    refine Goes.seq ?_
    refine Goes.region [0] fun K hK => ?_; simp (maxSteps := 4000000) only [go_sem, ↓reduceIte, reduceCtorEq, Nat.reduceEqDiff, Nat.reduceBEq, Int.reduceBEq, Int.reduceBNe, Nat.reduceLT, Nat.reduceLeDiff, Nat.reduceAdd, Nat.reduceSub, Nat.reduceMul, Int.reduceToNat, Int.reduceEq, Int.reduceLT, Int.reduceLE, e0]
    refine hK _ _ ?_; clear hK K
    refine Goes.ret hC Try.func42 (by simp [go_sem]) ?_
    simp only [go_sem, ↓reduceIte, reduceCtorEq, Nat.reduceEqDiff, Nat.reduceBEq, Int.reduceBEq, Int.reduceBNe, Nat.reduceLT, Nat.reduceLeDiff, Nat.reduceAdd, Nat.reduceSub, Nat.reduceMul, Int.reduceToNat, Int.reduceEq, Int.reduceLT, Int.reduceLE]
    rw [if_pos hc]
    trivial
  refine Goes.seq (Goes.join (fun env σ => eget 0 env = .ptr r 3 0 0 ∧ eget 1 env = .v (.int .i64 n) ∧ σ = frst r B a bad ∧ bad = false ∧ n ≤ B.length - a) ?_ ?_)
  · intro k' hk'
    refine Goes.seq ?_
    have hw : IntKind.i64.wrap ((B.length : Int) - (a : Int)) = (B.length : Int) - (a : Int) := wrap_in _ (by omega) (by omega)
    cases bad with
    | true =>
      refine Goes.draw [0, 1] [] [r] [] [(0, true), (1, true), (2, true), (3, true), (4, true), (5, true), (6, true), (7, true), (8, true), (9, true), (10, true), (11, true), (12, true), (13, true), (14, true), (15, true), (16, true), (17, true)] (by kernel_rfl) (by decide) (by kernel_rfl) fun K hK => ?_; simp (maxSteps := 4000000) only [go_sem, ↓reduceIte, reduceCtorEq, Nat.reduceEqDiff, Nat.reduceBEq, Int.reduceBEq, Int.reduceBNe, Nat.reduceLT, Nat.reduceLeDiff, Nat.reduceAdd, Nat.reduceSub, Nat.reduceMul, Int.reduceToNat, Int.reduceEq, Int.reduceLT, Int.reduceLE, hr, hlb, hw]
      refine hK _ _ (Goes.condT rfl ?_); clear hK K
      exact bad' (.inl rfl) _ _ _ rfl rfl
    | false =>
      refine Goes.draw [0, 1] [] [r] [] [(0, true), (1, true), (2, true), (3, true), (4, true), (5, true), (6, true), (7, true), (8, true), (9, true), (10, true), (11, true), (12, true), (13, true), (14, true), (15, true), (16, true), (17, true)] (by kernel_rfl) (by decide) (by kernel_rfl) fun K hK => ?_; simp (maxSteps := 4000000) only [go_sem, ↓reduceIte, reduceCtorEq, Nat.reduceEqDiff, Nat.reduceBEq, Int.reduceBEq, Int.reduceBNe, Nat.reduceLT, Nat.reduceLeDiff, Nat.reduceAdd, Nat.reduceSub, Nat.reduceMul, Int.reduceToNat, Int.reduceEq, Int.reduceLT, Int.reduceLE, hr, hlb, hw]
      refine hK _ _ (Goes.cond rfl (fun h => ?_) (fun h => ?_)); all_goals clear hK K
      · exact bad' (.inr (by simp at h; omega)) _ _ _ rfl rfl
      · exact Goes.skip (hk' _ _ ⟨rfl, rfl, rfl, rfl, by simp at h; omega⟩)
  rintro env σ ⟨e0, e1, rfl, rfl, hle⟩
  simp only [if_neg (show ¬ (false = true ∨ B.length - a < n) by simp; omega)] at hC
  have hw : IntKind.i64.wrap ((a : Int) + (n : Int)) = ((a + n : Nat) : Int) := by rw [wrap_in _ (by omega) (by omega)]; omega
  refine Goes.seq ?_
  refine Goes.region [0, 1] fun K hK => ?_; simp (maxSteps := 4000000) only [go_sem, ↓reduceIte, reduceCtorEq, Nat.reduceEqDiff, Nat.reduceBEq, Int.reduceBEq, Int.reduceBNe, Nat.reduceLT, Nat.reduceLeDiff, Nat.reduceAdd, Nat.reduceSub, Nat.reduceMul, Int.reduceToNat, Int.reduceEq, Int.reduceLT, Int.reduceLE, e0, e1, hr, hw, frst]
  refine hK _ _ ?_; clear hK K
  have hr2 : sget r (frst r B (a + n) false) = some (.arr 3 [.agg [.slc (B.map bD), .v (.int .i64 (a + n : Nat)), .v (.bool false)]]) := sget_self ..
  rw [show ([(r, .arr 3 [.agg [.slc (B.map bD), .v (.int .i64 (a + n : Nat)), .v (.bool false)]])] : Store) = frst r B (a + n) false from rfl]
  have hw2 : IntKind.i64.wrap (((a + n : Nat) : Int) - (n : Int)) = (a : Int) := by rw [wrap_in _ (by omega) (by omega)]; omega
  have h1 : (0 : Int) ≤ (a : Int) := by omega
  have h2 : (a : Int) ≤ ((a + n : Nat) : Int) := by omega
  have h3 : ((a + n : Nat) : Int) ≤ (B.length : Int) := by omega
  have h4 : ∀ x ∈ B.map bD, x.cells.length = 1 := fun x hx => (plain_bD B x hx).1
  refine Goes.seq ?_
  refine Goes.draw [0, 1] [] [r] [] [(0, true), (1, true), (2, true), (3, true), (4, true), (5, true), (6, true), (7, true), (8, true), (9, true), (10, true), (11, true), (12, true), (13, true), (14, true), (15, true), (16, true)] (by kernel_rfl) (by decide) (by kernel_rfl) fun K hK => ?_; simp (maxSteps := 4000000) only [go_sem, ↓reduceIte, reduceCtorEq, Nat.reduceEqDiff, Nat.reduceBEq, Int.reduceBEq, Int.reduceBNe, Nat.reduceLT, Nat.reduceLeDiff, Nat.reduceAdd, Nat.reduceSub, Nat.reduceMul, Int.reduceToNat, Int.reduceEq, Int.reduceLT, Int.reduceLE, hr2, hlb, hw2, h1, h2, h3, Int.toNat_natCast]
  refine ⟨h4, hK _ _ ?_⟩; clear hK K
  have hdt : List.drop a (List.take (a + n) (B.map bD)) = ((B.drop a).take n).map bD := by
    rw [List.drop_take, ← List.map_drop, ← List.map_take, show a + n - a = n by omega]
  refine Goes.ret hC Try.func42 (by simp [go_sem]) ?_
  simp only [go_sem, ↓reduceIte, reduceCtorEq, Nat.reduceEqDiff, Nat.reduceBEq, Int.reduceBEq, Int.reduceBNe, Nat.reduceLT, Nat.reduceLeDiff, Nat.reduceAdd, Nat.reduceSub, Nat.reduceMul, Int.reduceToNat, Int.reduceEq, Int.reduceLT, Int.reduceLE, hdt]

/-- The document's reader over B stands where a reader of s does. -/
structure RF (r : Nat) (B : List UInt8) (s : RS) (ρ σ : Store) : Prop where
  ex : ∃ a, a ≤ B.length ∧ (s.2 = false → s.1 = B.drop a) ∧ (s.2 = true → s.1 = []) ∧ σ = frst r B a s.2 ++ ρ
  apart : sget r ρ = none

theorem RF.len {r : Nat} {B : List UInt8} {s : RS} {ρ σ : Store} (h : RF r B s ρ σ) : s.1.length ≤ B.length := by
  obtain ⟨a, h1, h2, h3, _⟩ := h.ex
  cases hb : s.2 with
  | true => rw [h3 hb]; simp
  | false => rw [h2 hb]; simp
theorem RF.row {r : Nat} {B : List UInt8} {s : RS} {ρ σ : Store} (h : RF r B s ρ σ) : ∃ a : Nat, a ≤ B.length ∧ (s.2 = false → s.1 = B.drop a) ∧ sget r σ = some (.arr 3 [.agg [.slc (B.map bD), .v (.int .i64 a), .v (.bool s.2)]]) := by
  obtain ⟨a, h1, h2, h3, rfl⟩ := h.ex
  exact ⟨a, h1, h2, sget_self ..⟩
theorem RF.keep {r : Nat} {B : List UInt8} {s : RS} {ρ σ : Store} (h : RF r B s ρ σ) {b : Nat} {x : AObj} (hb : sget b ρ = some x) : sget b σ = some x := by
  have hne : b ≠ r := fun e => by rw [e, h.apart] at hb; cases hb
  obtain ⟨a, _, _, _, rfl⟩ := h.ex
  show sget b ((r, _) :: ρ) = _
  rw [sget_cons, if_neg hne, hb]
theorem RF.ap {r : Nat} {ρ : Store} (h : sget r ρ = none) (B : List UInt8) (a : Nat) (bad : Bool) : Apart ρ (frst r B a bad) := fun b hb => by
  have hne : b ≠ r := fun e => by rw [e, h] at hb; exact hb rfl
  simp [frst, sget, hne]

theorem RF.take {r : Nat} {B : List UInt8} {s : RS} {ρ σ : Store} (h : RF r B s ρ σ) (n : Nat) (hB : B.length < 2 ^ 38) (hn : n < 2 ^ 38) :
    ACalls Try.prog 42 [.ptr r 3 0 0, .v (.int .i64 n)] σ (fun e σ' => e = .ret (.tup [.slc ((takeS s n).1.map bD), .v (.bool (!(takeS s n).2.2))]) ∧ RF r B (takeS s n).2 ρ σ') := by
  obtain ⟨a, h1, h2, h3, rfl⟩ := h.ex
  refine ((ftake_calls r B a s.2 n h1 hB hn).frame (SLe.append_left _ _) (SLe.append_right (RF.ap h.apart _ _ _)) (RF.ap h.apart _ _ _)).mono ?_
  rintro e σ' ⟨σ1, hR, _, rfl⟩
  have hl : s.2 = false → s.1.length = B.length - a := fun hb => by rw [h2 hb]; simp
  by_cases hc : s.2 = true ∨ s.1.length < n
  · rw [if_pos (by rcases hc with hc | hc; exact .inl hc; cases hb : s.2; exact .inr (by have := hl hb; omega); exact .inl rfl)] at hR
    obtain ⟨rfl, rfl⟩ := hR
    unfold takeS
    rw [if_pos hc]
    exact ⟨rfl, ⟨a, h1, (fun h => by cases h), fun _ => rfl, rfl⟩, h.apart⟩
  · have hb : s.2 = false := by cases hb : s.2 <;> simp_all
    have hlen := hl hb
    rw [if_neg (by rw [hb]; simp; simp [hb] at hc; omega)] at hR
    obtain ⟨rfl, rfl⟩ := hR
    unfold takeS
    rw [if_neg hc]
    refine ⟨by rw [h2 hb]; rfl, ⟨a + n, by simp [hb] at hc; omega, fun _ => ?_, (fun h => by cases h), rfl⟩, h.apart⟩
    show s.1.drop n = _
    rw [h2 hb, List.drop_drop]

theorem u64_nat (v : Nat) (h : v < 18446744073709551616) : IntKind.u64.wrap (v : Int) = v := by simp [IntKind.wrap, IntKind.bits, IntKind.signed]; omega

theorem fvalue_calls (l : List UInt8) (σ : Store) (hl : l.length ≤ 8) : ACalls Try.prog 43 [.slc (l.map bD)] σ (fun e σ' => e = .ret (.v (.int .u64 (val l))) ∧ σ' = σ) := by
  have hll : (l.map bD).length = l.length := List.length_map ..
  refine ACalls.of_body Try.func43 rfl Try.ntmps43 (by simp) fun C hC => ?_
  have hw : IntKind.i64.wrap ((l.length : Int) - 1) = (l.length : Int) - 1 := wrap_in _ (by omega) (by omega)
  repeat' (first | refine Goes.seq ?_ | refine Goes.skip ?_ | refine Goes.inBlock ?_ | refine Goes.block ?_ | refine Goes.exit rfl ?_ | (refine Goes.region [0, 2, 3, 4] fun K hK => ?_; simp (maxSteps := 4000000) only [go_sem, ↓reduceIte, reduceCtorEq, Nat.reduceEqDiff, Nat.reduceBEq, Int.reduceBEq, Int.reduceBNe, Nat.reduceLT, Nat.reduceLeDiff, Nat.reduceAdd, Nat.reduceSub, Nat.reduceMul, Int.reduceToNat, Int.reduceEq, Int.reduceLT, Int.reduceLE, hll, hw]; refine hK _ _ ?_; clear hK K))
  refine Goes.rebase [0, 3, 4] ?_
  simp only [go_sem, ↓reduceIte, reduceCtorEq, Nat.reduceEqDiff, Nat.reduceBEq, Int.reduceBEq, Int.reduceBNe, Nat.reduceLT, Nat.reduceLeDiff, Nat.reduceAdd, Nat.reduceSub, Nat.reduceMul, Int.reduceToNat, Int.reduceEq, Int.reduceLT, Int.reduceLE]
  refine Goes.while (fun (j : Nat) env' σ' => j ≤ l.length ∧ env' = [(0, .slc (l.map bD)), (3, .v (.int .u64 (val (l.drop j)))), (4, .v (.int .i64 ((j : Int) - 1)))] ∧ σ' = σ) (fun j => j) l.length ⟨Nat.le_refl _, by simp [val], rfl⟩ ?_
  rintro j env' σ' ⟨hj, rfl, rfl⟩ ih
  refine Goes.seq ?_
  repeat' (first | refine Goes.seq ?_ | refine Goes.skip ?_ | refine Goes.inBlock ?_ | refine Goes.block ?_ | refine Goes.exit rfl ?_ | (refine Goes.region [0, 3, 4] fun K hK => ?_; simp (maxSteps := 4000000) only [go_sem, ↓reduceIte, reduceCtorEq, Nat.reduceEqDiff, Nat.reduceBEq, Int.reduceBEq, Int.reduceBNe, Nat.reduceLT, Nat.reduceLeDiff, Nat.reduceAdd, Nat.reduceSub, Nat.reduceMul, Int.reduceToNat, Int.reduceEq, Int.reduceLT, Int.reduceLE]; refine hK _ _ ?_; clear hK K))
  refine Goes.cond rfl (fun hc => ?_) (fun hc => ?_)
  · obtain ⟨i, rfl⟩ : ∃ i, j = i + 1 := ⟨j - 1, by simp at hc; omega⟩
    have hlt : i < l.length := by omega
    have hg := getD_map_lt bD l i hlt
    rw [bD] at hg
    have e1 : ((i + 1 : Nat) : Int) - 1 = (i : Int) := by omega
    have hdr : val (l.drop i) = l[i].toNat + 256 * val (l.drop (i + 1)) := by rw [List.drop_eq_getElem_cons hlt]; rfl
    have hb1 := val_lt (l.drop i)
    have hb2 : 256 ^ (l.drop i).length ≤ 256 ^ 8 := Nat.pow_le_pow_right (by omega) (by simp; omega)
    have h8 : 256 ^ 8 = 18446744073709551616 := rfl
    have hw1 : IntKind.u64.wrap (256 * ((val (l.drop (i + 1)) : Nat) : Int)) = ((256 * val (l.drop (i + 1)) : Nat) : Int) := by
      have := u64_nat (256 * val (l.drop (i + 1))) (by omega)
      rw [← this]; simp
    have hw2 : IntKind.u64.wrap ((l[i].toNat : Nat) : Int) = ((l[i].toNat : Nat) : Int) := u64_nat _ (by omega)
    have hw3 : IntKind.u64.wrap (((256 * val (l.drop (i + 1)) : Nat) : Int) + ((l[i].toNat : Nat) : Int)) = ((val (l.drop i) : Nat) : Int) := by
      rw [← u64_nat (val (l.drop i)) (by omega), hdr]; congr 1; omega
    have hi0 : (0 : Int) ≤ (i : Int) := by omega
    have hi1 : (i : Int) < ((l.map bD).length : Int) := by omega
    have hw4 : IntKind.i64.wrap ((i : Int) - 1) = (i : Int) - 1 := wrap_in _ (by omega) (by omega)
    rw [e1]
    repeat' (first | refine Goes.seq ?_ | refine Goes.skip ?_ | refine Goes.inBlock ?_ | refine Goes.block ?_ | refine Goes.exit rfl ?_ | (refine Goes.region [0, 3, 4] fun K hK => ?_; simp (maxSteps := 4000000) only [go_sem, ↓reduceIte, reduceCtorEq, Nat.reduceEqDiff, Nat.reduceBEq, Int.reduceBEq, Int.reduceBNe, Nat.reduceLT, Nat.reduceLeDiff, Nat.reduceAdd, Nat.reduceSub, Nat.reduceMul, Int.reduceToNat, Int.reduceEq, Int.reduceLT, Int.reduceLE, hg, hw1, hw2, hw3, hw4, hi0, hi1]; refine hK _ _ ?_; clear hK K))
    refine Goes.rebase [0, 3, 4] ?_
    simp only [go_sem, ↓reduceIte, reduceCtorEq, Nat.reduceEqDiff, Nat.reduceBEq, Int.reduceBEq, Int.reduceBNe, Nat.reduceLT, Nat.reduceLeDiff, Nat.reduceAdd, Nat.reduceSub, Nat.reduceMul, Int.reduceToNat, Int.reduceEq, Int.reduceLT, Int.reduceLE]
    exact ih i _ _ ⟨by omega, rfl, rfl⟩ (by omega)
  · have : j = 0 := by simp at hc; omega
    subst this
    repeat' (first | refine Goes.seq ?_ | refine Goes.skip ?_ | refine Goes.inBlock ?_ | refine Goes.block ?_ | refine Goes.exit rfl ?_ | (refine Goes.region [3] fun K hK => ?_; simp (maxSteps := 4000000) only [go_sem, ↓reduceIte, reduceCtorEq, Nat.reduceEqDiff, Nat.reduceBEq, Int.reduceBEq, Int.reduceBNe, Nat.reduceLT, Nat.reduceLeDiff, Nat.reduceAdd, Nat.reduceSub, Nat.reduceMul, Int.reduceToNat, Int.reduceEq, Int.reduceLT, Int.reduceLE]; refine hK _ _ ?_; clear hK K))
    refine Goes.ret hC Try.func43 (by simp [go_sem]) ?_
    simp only [go_sem, ↓reduceIte, reduceCtorEq, Nat.reduceEqDiff, Nat.reduceBEq, Int.reduceBEq, Int.reduceBNe, Nat.reduceLT, Nat.reduceLeDiff, Nat.reduceAdd, Nat.reduceSub, Nat.reduceMul, Int.reduceToNat, Int.reduceEq, Int.reduceLT, Int.reduceLE]
end Go.Ab.S21

/- Layer 21: the document's reader: Number, Text, Left; the document's number. -/
namespace Go.Ab.S21
open Go Go.Proofs

theorem numS_bnd (s : RS) (k : Nat) (hk : k ≤ 4) : (numS s k).1 < 4294967296 := by
  have h1 := val_lt (takeS s k).1
  have h2 : 256 ^ (takeS s k).1.length ≤ 256 ^ 4 := Nat.pow_le_pow_right (by omega) (by have := (takeS_len s k).2; omega)
  have h3 : 256 ^ 4 = 4294967296 := rfl
  show val _ < _
  omega

theorem RF.number {r : Nat} {B : List UInt8} {s : RS} {ρ σ : Store} (h : RF r B s ρ σ) (k : Nat) (hB : B.length < 2 ^ 38) (hk : k ≤ 4) :
    ACalls Try.prog 28 [.ptr r 3 0 0, .v (.int .i64 k)] σ (fun e σ' => e = .ret (.v (.int .u64 (numS s k).1)) ∧ RF r B (numS s k).2 ρ σ') := by
  refine ACalls.of_body Try.func28 rfl Try.ntmps28 (by simp) fun C hC => ?_
  refine Goes.seq ?_
  refine Goes.region [0, 1] fun K hK => ?_; simp (maxSteps := 4000000) only [go_sem, ↓reduceIte, reduceCtorEq, Nat.reduceEqDiff, Nat.reduceBEq, Int.reduceBEq, Int.reduceBNe, Nat.reduceLT, Nat.reduceLeDiff, Nat.reduceAdd, Nat.reduceSub, Nat.reduceMul, Int.reduceToNat, Int.reduceEq, Int.reduceLT, Int.reduceLE]
  refine hK _ _ ?_; clear hK K
  refine Goes.seq ?_
  refine Goes.region [0, 1] fun K hK => ?_; simp (maxSteps := 4000000) only [go_sem, ↓reduceIte, reduceCtorEq, Nat.reduceEqDiff, Nat.reduceBEq, Int.reduceBEq, Int.reduceBNe, Nat.reduceLT, Nat.reduceLeDiff, Nat.reduceAdd, Nat.reduceSub, Nat.reduceMul, Int.reduceToNat, Int.reduceEq, Int.reduceLT, Int.reduceLE]
  refine ⟨_, Try.call42, (h.take k hB (by omega)).mono ?_⟩
  rintro e σ1 ⟨rfl, h1⟩
  have hlen := (takeS_len s k).2
  cases hb : (takeS s k).2.2 with
  | true =>
    simp only [go_sem, ↓reduceIte, reduceCtorEq, Nat.reduceEqDiff, Nat.reduceBEq, Int.reduceBEq, Int.reduceBNe, Nat.reduceLT, Nat.reduceLeDiff, Nat.reduceAdd, Nat.reduceSub, Nat.reduceMul, Int.reduceToNat, Int.reduceEq, Int.reduceLT, Int.reduceLE, hb, Bool.not_true]
    refine hK _ _ ?_; clear hK K
    repeat' (first | refine Goes.seq ?_ | refine Goes.skip ?_ | refine Goes.inBlock ?_ | refine Goes.block ?_ | refine Goes.exit rfl ?_ | (refine Goes.region [0, 6] fun K hK => ?_; simp (maxSteps := 4000000) only [go_sem, ↓reduceIte, reduceCtorEq, Nat.reduceEqDiff, Nat.reduceBEq, Int.reduceBEq, Int.reduceBNe, Nat.reduceLT, Nat.reduceLeDiff, Nat.reduceAdd, Nat.reduceSub, Nat.reduceMul, Int.reduceToNat, Int.reduceEq, Int.reduceLT, Int.reduceLE]; refine hK _ _ ?_; clear hK K))
    refine Goes.condT rfl ?_
    refine Goes.seq ?_
    refine Goes.region [0] fun K hK => ?_; simp (maxSteps := 4000000) only [go_sem, ↓reduceIte, reduceCtorEq, Nat.reduceEqDiff, Nat.reduceBEq, Int.reduceBEq, Int.reduceBNe, Nat.reduceLT, Nat.reduceLeDiff, Nat.reduceAdd, Nat.reduceSub, Nat.reduceMul, Int.reduceToNat, Int.reduceEq, Int.reduceLT, Int.reduceLE]
    refine hK _ _ ?_; clear hK K
    have hv : (takeS s k).1 = [] := by
      unfold takeS at hb ⊢
      split
      · rfl
      · rename_i hc; rw [if_neg hc] at hb; cases hb
    refine Goes.ret hC Try.func28 (by simp [go_sem]) ?_
    simp only [go_sem, ↓reduceIte, reduceCtorEq, Nat.reduceEqDiff, Nat.reduceBEq, Int.reduceBEq, Int.reduceBNe, Nat.reduceLT, Nat.reduceLeDiff, Nat.reduceAdd, Nat.reduceSub, Nat.reduceMul, Int.reduceToNat, Int.reduceEq, Int.reduceLT, Int.reduceLE]
    refine ⟨?_, h1⟩
    show _ = AEnd.ret (.v (.int .u64 ((val (takeS s k).1 : Nat) : Int)))
    rw [hv]; rfl
  | false =>
    simp only [go_sem, ↓reduceIte, reduceCtorEq, Nat.reduceEqDiff, Nat.reduceBEq, Int.reduceBEq, Int.reduceBNe, Nat.reduceLT, Nat.reduceLeDiff, Nat.reduceAdd, Nat.reduceSub, Nat.reduceMul, Int.reduceToNat, Int.reduceEq, Int.reduceLT, Int.reduceLE, hb, Bool.not_false]
    refine hK _ _ ?_; clear hK K
    repeat' (first | refine Goes.seq ?_ | refine Goes.skip ?_ | refine Goes.inBlock ?_ | refine Goes.block ?_ | refine Goes.exit rfl ?_ | (refine Goes.region [5, 6] fun K hK => ?_; simp (maxSteps := 4000000) only [go_sem, ↓reduceIte, reduceCtorEq, Nat.reduceEqDiff, Nat.reduceBEq, Int.reduceBEq, Int.reduceBNe, Nat.reduceLT, Nat.reduceLeDiff, Nat.reduceAdd, Nat.reduceSub, Nat.reduceMul, Int.reduceToNat, Int.reduceEq, Int.reduceLT, Int.reduceLE]; refine hK _ _ ?_; clear hK K))
    refine Goes.condF rfl ?_
    refine Goes.skip ?_
    refine Goes.seq ?_
    refine Goes.region [5] fun K hK => ?_; simp (maxSteps := 4000000) only [go_sem, ↓reduceIte, reduceCtorEq, Nat.reduceEqDiff, Nat.reduceBEq, Int.reduceBEq, Int.reduceBNe, Nat.reduceLT, Nat.reduceLeDiff, Nat.reduceAdd, Nat.reduceSub, Nat.reduceMul, Int.reduceToNat, Int.reduceEq, Int.reduceLT, Int.reduceLE]
    refine ⟨_, Try.call43, (fvalue_calls (takeS s k).1 σ1 (by omega)).mono ?_⟩
    rintro e σ2 ⟨rfl, rfl⟩
    simp only [go_sem, ↓reduceIte, reduceCtorEq, Nat.reduceEqDiff, Nat.reduceBEq, Int.reduceBEq, Int.reduceBNe, Nat.reduceLT, Nat.reduceLeDiff, Nat.reduceAdd, Nat.reduceSub, Nat.reduceMul, Int.reduceToNat, Int.reduceEq, Int.reduceLT, Int.reduceLE]
    refine hK _ _ ?_; clear hK K
    refine Goes.ret hC Try.func28 (by simp [go_sem]) ?_
    simp only [go_sem, ↓reduceIte, reduceCtorEq, Nat.reduceEqDiff, Nat.reduceBEq, Int.reduceBEq, Int.reduceBNe, Nat.reduceLT, Nat.reduceLeDiff, Nat.reduceAdd, Nat.reduceSub, Nat.reduceMul, Int.reduceToNat, Int.reduceEq, Int.reduceLT, Int.reduceLE]
    exact ⟨rfl, h1⟩

theorem RF.text {r : Nat} {B : List UInt8} {s : RS} {ρ σ : Store} (h : RF r B s ρ σ) (hB : B.length < 2 ^ 38) :
    ACalls Try.prog 29 [.ptr r 3 0 0] σ (fun e σ' => e = .ret (.v (.string ⟨(textS s).1.toArray⟩)) ∧ RF r B (textS s).2 ρ σ') := by
  refine ACalls.of_body Try.func29 rfl Try.ntmps29 (by simp) fun C hC => ?_
  refine Goes.seq ?_
  refine Goes.region [0] fun K hK => ?_; simp (maxSteps := 4000000) only [go_sem, ↓reduceIte, reduceCtorEq, Nat.reduceEqDiff, Nat.reduceBEq, Int.reduceBEq, Int.reduceBNe, Nat.reduceLT, Nat.reduceLeDiff, Nat.reduceAdd, Nat.reduceSub, Nat.reduceMul, Int.reduceToNat, Int.reduceEq, Int.reduceLT, Int.reduceLE]
  refine hK _ _ ?_; clear hK K
  refine Goes.seq ?_
  refine Goes.region [0] fun K hK => ?_; simp (maxSteps := 4000000) only [go_sem, ↓reduceIte, reduceCtorEq, Nat.reduceEqDiff, Nat.reduceBEq, Int.reduceBEq, Int.reduceBNe, Nat.reduceLT, Nat.reduceLeDiff, Nat.reduceAdd, Nat.reduceSub, Nat.reduceMul, Int.reduceToNat, Int.reduceEq, Int.reduceLT, Int.reduceLE]
  refine ⟨_, Try.call28, (h.number 2 hB (by omega)).mono ?_⟩
  rintro e σ1 ⟨rfl, h1⟩
  simp only [go_sem, ↓reduceIte, reduceCtorEq, Nat.reduceEqDiff, Nat.reduceBEq, Int.reduceBEq, Int.reduceBNe, Nat.reduceLT, Nat.reduceLeDiff, Nat.reduceAdd, Nat.reduceSub, Nat.reduceMul, Int.reduceToNat, Int.reduceEq, Int.reduceLT, Int.reduceLE]
  refine hK _ _ ?_; clear hK K
  have hb := numS_bnd s 2 (by omega)
  have hw : IntKind.i64.wrap (((numS s 2).1 : Nat) : Int) = (((numS s 2).1 : Nat) : Int) := wrap_in _ (by omega) (by omega)
  refine Goes.seq ?_
  refine Goes.region [0, 3] fun K hK => ?_; simp (maxSteps := 4000000) only [go_sem, ↓reduceIte, reduceCtorEq, Nat.reduceEqDiff, Nat.reduceBEq, Int.reduceBEq, Int.reduceBNe, Nat.reduceLT, Nat.reduceLeDiff, Nat.reduceAdd, Nat.reduceSub, Nat.reduceMul, Int.reduceToNat, Int.reduceEq, Int.reduceLT, Int.reduceLE, hw]
  refine ⟨_, Try.call42, (h1.take (numS s 2).1 hB (by omega)).mono ?_⟩
  rintro e σ2 ⟨rfl, h2⟩
  simp only [go_sem, ↓reduceIte, reduceCtorEq, Nat.reduceEqDiff, Nat.reduceBEq, Int.reduceBEq, Int.reduceBNe, Nat.reduceLT, Nat.reduceLeDiff, Nat.reduceAdd, Nat.reduceSub, Nat.reduceMul, Int.reduceToNat, Int.reduceEq, Int.reduceLT, Int.reduceLE]
  refine hK _ _ ?_; clear hK K
  refine Goes.seq ?_
  refine Goes.region [4] fun K hK => ?_; simp (maxSteps := 4000000) only [go_sem, ↓reduceIte, reduceCtorEq, Nat.reduceEqDiff, Nat.reduceBEq, Int.reduceBEq, Int.reduceBNe, Nat.reduceLT, Nat.reduceLeDiff, Nat.reduceAdd, Nat.reduceSub, Nat.reduceMul, Int.reduceToNat, Int.reduceEq, Int.reduceLT, Int.reduceLE]
  refine ⟨fun x hx => List.all_eq_true.1 (allByte_bD _) x hx, hK _ _ ?_⟩; clear hK K
  refine Goes.ret hC Try.func29 (by simp [go_sem]) ?_
  simp only [go_sem, ↓reduceIte, reduceCtorEq, Nat.reduceEqDiff, Nat.reduceBEq, Int.reduceBEq, Int.reduceBNe, Nat.reduceLT, Nat.reduceLeDiff, Nat.reduceAdd, Nat.reduceSub, Nat.reduceMul, Int.reduceToNat, Int.reduceEq, Int.reduceLT, Int.reduceLE]
  refine ⟨?_, h2⟩
  rw [bytesOf_bD]
  rfl

theorem RF.left {r : Nat} {B : List UInt8} {s : RS} {ρ σ : Store} (h : RF r B s ρ σ) (hB : B.length < 2 ^ 38) :
    ACalls Try.prog 27 [.ptr r 3 0 0] σ (fun e σ' => e = .ret (.v (.int .i64 s.1.length)) ∧ RF r B s ρ σ') := by
  obtain ⟨a, h1, h2, hr⟩ := h.row
  have h3 : s.2 = true → s.1 = [] := h.ex.choose_spec.2.2.1
  have hlb : (B.map bD).length = B.length := List.length_map ..
  refine ACalls.of_body Try.func27 rfl Try.ntmps27 (by simp) fun C hC => ?_
  refine Goes.seq ?_
  refine Goes.region [0] fun K hK => ?_; simp (maxSteps := 4000000) only [go_sem, ↓reduceIte, reduceCtorEq, Nat.reduceEqDiff, Nat.reduceBEq, Int.reduceBEq, Int.reduceBNe, Nat.reduceLT, Nat.reduceLeDiff, Nat.reduceAdd, Nat.reduceSub, Nat.reduceMul, Int.reduceToNat, Int.reduceEq, Int.reduceLT, Int.reduceLE]
  refine hK _ _ ?_; clear hK K
  refine Goes.seq ?_
  refine Goes.seq ?_
  refine Goes.region [0] fun K hK => ?_; simp (maxSteps := 4000000) only [go_sem, ↓reduceIte, reduceCtorEq, Nat.reduceEqDiff, Nat.reduceBEq, Int.reduceBEq, Int.reduceBNe, Nat.reduceLT, Nat.reduceLeDiff, Nat.reduceAdd, Nat.reduceSub, Nat.reduceMul, Int.reduceToNat, Int.reduceEq, Int.reduceLT, Int.reduceLE, hr]
  refine hK _ _ ?_; clear hK K
  cases hb : s.2 with
  | true =>
    rw [hb] at hr
    refine Goes.condT rfl ?_
    refine Goes.seq ?_
    refine Goes.region [0] fun K hK => ?_; simp (maxSteps := 4000000) only [go_sem, ↓reduceIte, reduceCtorEq, Nat.reduceEqDiff, Nat.reduceBEq, Int.reduceBEq, Int.reduceBNe, Nat.reduceLT, Nat.reduceLeDiff, Nat.reduceAdd, Nat.reduceSub, Nat.reduceMul, Int.reduceToNat, Int.reduceEq, Int.reduceLT, Int.reduceLE]
    refine hK _ _ ?_; clear hK K
    refine Goes.ret hC Try.func27 (by simp [go_sem]) ?_
    simp only [go_sem, ↓reduceIte, reduceCtorEq, Nat.reduceEqDiff, Nat.reduceBEq, Int.reduceBEq, Int.reduceBNe, Nat.reduceLT, Nat.reduceLeDiff, Nat.reduceAdd, Nat.reduceSub, Nat.reduceMul, Int.reduceToNat, Int.reduceEq, Int.reduceLT, Int.reduceLE]
    refine ⟨?_, h⟩
    rw [h3 hb]; rfl
  | false =>
    rw [hb] at hr
    refine Goes.condF rfl ?_
    refine Goes.skip ?_
    have hw : IntKind.i64.wrap ((B.length : Int) - (a : Int)) = (B.length : Int) - (a : Int) := wrap_in _ (by omega) (by omega)
    refine Goes.seq ?_
    refine Goes.draw [0] [] [r] [] [(0, true), (1, true), (2, true), (3, true), (4, true), (5, true), (6, true), (7, true), (8, true), (9, true), (10, true)] (by kernel_rfl) (by decide) (by kernel_rfl) fun K hK => ?_; simp (maxSteps := 4000000) only [go_sem, ↓reduceIte, reduceCtorEq, Nat.reduceEqDiff, Nat.reduceBEq, Int.reduceBEq, Int.reduceBNe, Nat.reduceLT, Nat.reduceLeDiff, Nat.reduceAdd, Nat.reduceSub, Nat.reduceMul, Int.reduceToNat, Int.reduceEq, Int.reduceLT, Int.reduceLE, hr, hlb, hw]
    refine hK _ _ ?_; clear hK K
    refine Goes.ret hC Try.func27 (by simp [go_sem]) ?_
    simp only [go_sem, ↓reduceIte, reduceCtorEq, Nat.reduceEqDiff, Nat.reduceBEq, Int.reduceBEq, Int.reduceBNe, Nat.reduceLT, Nat.reduceLeDiff, Nat.reduceAdd, Nat.reduceSub, Nat.reduceMul, Int.reduceToNat, Int.reduceEq, Int.reduceLT, Int.reduceLE]
    refine ⟨?_, h⟩
    rw [h2 hb, List.length_drop]
    congr 3; omega

/-- The document's number. -/
theorem RF.num {r : Nat} {B : List UInt8} {bs : List UInt8} {ρ σ : Store} (h : RF r B (bs, false) ρ σ) (hB : B.length < 2 ^ 38) :
    ACalls Try.prog 30 [.ptr r 3 0 0] σ (fun e σ' => match numR bs with
      | .err c => e = .ret (.tup [.v (.int .i64 0), .v (.int .i64 c)])
      | .ok n bs' => e = .ret (.tup [.v (.int .i64 n), .v (.int .i64 0)]) ∧ RF r B (bs', false) ρ σ') := by
  refine ACalls.of_body Try.func30 rfl Try.ntmps30 (by simp) fun C hC => ?_
  refine Goes.seq ?_
  refine Goes.region [0] fun K hK => ?_; simp (maxSteps := 4000000) only [go_sem, ↓reduceIte, reduceCtorEq, Nat.reduceEqDiff, Nat.reduceBEq, Int.reduceBEq, Int.reduceBNe, Nat.reduceLT, Nat.reduceLeDiff, Nat.reduceAdd, Nat.reduceSub, Nat.reduceMul, Int.reduceToNat, Int.reduceEq, Int.reduceLT, Int.reduceLE]
  refine hK _ _ ?_; clear hK K
  refine Goes.seq ?_
  refine Goes.region [0] fun K hK => ?_; simp (maxSteps := 4000000) only [go_sem, ↓reduceIte, reduceCtorEq, Nat.reduceEqDiff, Nat.reduceBEq, Int.reduceBEq, Int.reduceBNe, Nat.reduceLT, Nat.reduceLeDiff, Nat.reduceAdd, Nat.reduceSub, Nat.reduceMul, Int.reduceToNat, Int.reduceEq, Int.reduceLT, Int.reduceLE]
  refine ⟨_, Try.call28, (h.number 4 hB (by omega)).mono ?_⟩
  rintro e σ1 ⟨rfl, h1⟩
  simp only [go_sem, ↓reduceIte, reduceCtorEq, Nat.reduceEqDiff, Nat.reduceBEq, Int.reduceBEq, Int.reduceBNe, Nat.reduceLT, Nat.reduceLeDiff, Nat.reduceAdd, Nat.reduceSub, Nat.reduceMul, Int.reduceToNat, Int.reduceEq, Int.reduceLT, Int.reduceLE]
  refine hK _ _ ?_; clear hK K
  have hb := numS_bnd (bs, false) 4 (by omega)
  obtain ⟨a, _, _, hr⟩ := h1.row
  refine Goes.seq ?_
  refine Goes.seq ?_
  refine Goes.region [0, 4] fun K hK => ?_; simp (maxSteps := 4000000) only [go_sem, ↓reduceIte, reduceCtorEq, Nat.reduceEqDiff, Nat.reduceBEq, Int.reduceBEq, Int.reduceBNe, Nat.reduceLT, Nat.reduceLeDiff, Nat.reduceAdd, Nat.reduceSub, Nat.reduceMul, Int.reduceToNat, Int.reduceEq, Int.reduceLT, Int.reduceLE, hr]
  refine hK _ _ ?_; clear hK K
  cases hbad : (numS (bs, false) 4).2.2 with
  | true =>
    rw [hbad] at hr
    refine Goes.condT rfl ?_
    refine Goes.seq ?_
    refine Goes.region [] fun K hK => ?_; simp (maxSteps := 4000000) only [go_sem, ↓reduceIte, reduceCtorEq, Nat.reduceEqDiff, Nat.reduceBEq, Int.reduceBEq, Int.reduceBNe, Nat.reduceLT, Nat.reduceLeDiff, Nat.reduceAdd, Nat.reduceSub, Nat.reduceMul, Int.reduceToNat, Int.reduceEq, Int.reduceLT, Int.reduceLE]
    refine hK _ _ ?_; clear hK K
    refine Goes.ret hC Try.func30 (by simp [go_sem]) ?_
    simp only [go_sem, ↓reduceIte, reduceCtorEq, Nat.reduceEqDiff, Nat.reduceBEq, Int.reduceBEq, Int.reduceBNe, Nat.reduceLT, Nat.reduceLeDiff, Nat.reduceAdd, Nat.reduceSub, Nat.reduceMul, Int.reduceToNat, Int.reduceEq, Int.reduceLT, Int.reduceLE]
    unfold numR
    rw [if_pos hbad]
  | false =>
    refine Goes.condF rfl ?_
    refine Goes.skip ?_
    refine Goes.seq ?_
    refine Goes.seq ?_
    refine Goes.region [4] fun K hK => ?_; simp (maxSteps := 4000000) only [go_sem, ↓reduceIte, reduceCtorEq, Nat.reduceEqDiff, Nat.reduceBEq, Int.reduceBEq, Int.reduceBNe, Nat.reduceLT, Nat.reduceLeDiff, Nat.reduceAdd, Nat.reduceSub, Nat.reduceMul, Int.reduceToNat, Int.reduceEq, Int.reduceLT, Int.reduceLE]
    refine hK _ _ ?_; clear hK K
    refine Goes.cond rfl (fun hc => ?_) (fun hc => ?_)
    · refine Goes.seq ?_
      refine Goes.region [] fun K hK => ?_; simp (maxSteps := 4000000) only [go_sem, ↓reduceIte, reduceCtorEq, Nat.reduceEqDiff, Nat.reduceBEq, Int.reduceBEq, Int.reduceBNe, Nat.reduceLT, Nat.reduceLeDiff, Nat.reduceAdd, Nat.reduceSub, Nat.reduceMul, Int.reduceToNat, Int.reduceEq, Int.reduceLT, Int.reduceLE]
      refine hK _ _ ?_; clear hK K
      refine Goes.ret hC Try.func30 (by simp [go_sem]) ?_
      simp only [go_sem, ↓reduceIte, reduceCtorEq, Nat.reduceEqDiff, Nat.reduceBEq, Int.reduceBEq, Int.reduceBNe, Nat.reduceLT, Nat.reduceLeDiff, Nat.reduceAdd, Nat.reduceSub, Nat.reduceMul, Int.reduceToNat, Int.reduceEq, Int.reduceLT, Int.reduceLE]
      unfold numR
      rw [if_neg (by rw [hbad]; simp), if_pos (by simp at hc; omega)]
    · have hw : IntKind.i64.wrap (((numS (bs, false) 4).1 : Nat) : Int) = (((numS (bs, false) 4).1 : Nat) : Int) := wrap_in _ (by omega) (by omega)
      refine Goes.skip ?_
      refine Goes.seq ?_
      refine Goes.region [4] fun K hK => ?_; simp (maxSteps := 4000000) only [go_sem, ↓reduceIte, reduceCtorEq, Nat.reduceEqDiff, Nat.reduceBEq, Int.reduceBEq, Int.reduceBNe, Nat.reduceLT, Nat.reduceLeDiff, Nat.reduceAdd, Nat.reduceSub, Nat.reduceMul, Int.reduceToNat, Int.reduceEq, Int.reduceLT, Int.reduceLE, hw]
      refine hK _ _ ?_; clear hK K
      refine Goes.ret hC Try.func30 (by simp [go_sem]) ?_
      simp only [go_sem, ↓reduceIte, reduceCtorEq, Nat.reduceEqDiff, Nat.reduceBEq, Int.reduceBEq, Int.reduceBNe, Nat.reduceLT, Nat.reduceLeDiff, Nat.reduceAdd, Nat.reduceSub, Nat.reduceMul, Int.reduceToNat, Int.reduceEq, Int.reduceLT, Int.reduceLE]
      unfold numR
      rw [if_neg (by rw [hbad]; simp), if_neg (by simp at hc; omega)]
      refine ⟨rfl, ?_⟩
      have he : ((numS (bs, false) 4).2.1, false) = (numS (bs, false) 4).2 := Prod.ext rfl hbad.symm
      rw [he]
      exact h1
end Go.Ab.S21

/- Layer 21: the document's Read: an act's name, bytes and number. -/
namespace Go.Ab.S21
open Go Go.Proofs

def optS (f : Bool) (s : RS) : List UInt8 × RS := if f = true then textS s else ([], s)

/-- The state of the document's Read within a round. -/
structure Fx (r b6 : Nat) (B : List UInt8) (h : ByteArray) (dout : D) (ρ : Store) (s : RS) (ys : List D) (env : Env) (σ : Store) : Prop where
  e4 : eget 4 env = .ptr r 3 0 0
  e5 : eget 5 env = dout
  e6 : eget 6 env = .ptr b6 6 0 0
  e7 : eget 7 env = .v (.string h)
  rf : RF r B s ((b6, .arr 6 [.agg ys]) :: ρ) σ

theorem RF.set {r : Nat} {B : List UInt8} {s : RS} {b : Nat} {x y : AObj} {ρ σ : Store} (h : RF r B s ((b, x) :: ρ) σ) : RF r B s ((b, y) :: ρ) (sset b y σ) := by
  have hne : b ≠ r := fun e => by have := h.apart; rw [e, sget_self] at this; cases this
  obtain ⟨a, h1, h2, h3, rfl⟩ := h.ex
  refine ⟨⟨a, h1, h2, h3, ?_⟩, by have := h.apart; rw [sget_cons, if_neg hne.symm] at this ⊢; exact this⟩
  show sset b y ((r, _) :: (b, x) :: ρ) = (r, _) :: (b, y) :: ρ
  rw [sset_ne hne, sset_self]

section
variable {C : Ctx Try.prog ⟨139, []⟩} {r b6 : Nat} {B : List UInt8} {hh : ByteArray} {dout : D} {ρ : Store} {env : Env} {σ : Store}

theorem f_name (hB : B.length < 2 ^ 38) {f : Bool} (hls : hh.size < 3) (hf : hasB hh 110 = f) {s : RS} {y0 y1 y3 y4 y5 : D} (h : Fx r b6 B hh dout ρ s [y0, y1, .v (.string ByteArray.empty), y3, y4, y5] env σ) (k' : List Item)
    (hk' : ∀ env σ, Fx r b6 B hh dout ρ (optS f s).2 [y0, y1, .v (.string ⟨(optS f s).1.toArray⟩), y3, y4, y5] env σ → Goes C k' env σ) :
    Goes C (.code (bodyAt Try.f14 [1, 1, 1, 0, 0, 0, 1, 0, 1, 1, 1, 0]) :: k') env σ := by
  obtain ⟨e4, e5, e6, e7, rf⟩ := h
  refine Goes.seq ?_
  refine Goes.region [4, 5, 6, 7] fun K hK => ?_; simp (maxSteps := 4000000) only [go_sem, ↓reduceIte, reduceCtorEq, Nat.reduceEqDiff, Nat.reduceBEq, Int.reduceBEq, Int.reduceBNe, Nat.reduceLT, Nat.reduceLeDiff, Nat.reduceAdd, Nat.reduceSub, Nat.reduceMul, Int.reduceToNat, Int.reduceEq, Int.reduceLT, Int.reduceLE, e4, e5, e6, e7]
  refine has_v hls ?_
  simp only [go_sem, ↓reduceIte, reduceCtorEq, Nat.reduceEqDiff, Nat.reduceBEq, Int.reduceBEq, Int.reduceBNe, Nat.reduceLT, Nat.reduceLeDiff, Nat.reduceAdd, Nat.reduceSub, Nat.reduceMul, Int.reduceToNat, Int.reduceEq, Int.reduceLT, Int.reduceLE, e4, e5, e6, e7, hf]
  refine hK _ _ (Goes.cond rfl (fun hc => ?_) (fun hc => ?_)); all_goals clear hK K
  · subst hc
    refine Goes.region [4, 5, 6, 7] fun K hK => ?_; simp (maxSteps := 4000000) only [go_sem, ↓reduceIte, reduceCtorEq, Nat.reduceEqDiff, Nat.reduceBEq, Int.reduceBEq, Int.reduceBNe, Nat.reduceLT, Nat.reduceLeDiff, Nat.reduceAdd, Nat.reduceSub, Nat.reduceMul, Int.reduceToNat, Int.reduceEq, Int.reduceLT, Int.reduceLE, e4, e5, e6, e7]
    refine ⟨_, Try.call29, (rf.text hB).mono ?_⟩
    rintro e σ1 ⟨rfl, rf1⟩
    have g6 := rf1.keep (sget_self ..)
    simp only [go_sem, ↓reduceIte, reduceCtorEq, Nat.reduceEqDiff, Nat.reduceBEq, Int.reduceBEq, Int.reduceBNe, Nat.reduceLT, Nat.reduceLeDiff, Nat.reduceAdd, Nat.reduceSub, Nat.reduceMul, Int.reduceToNat, Int.reduceEq, Int.reduceLT, Int.reduceLE, g6, e6]
    refine hK _ _ (hk' _ _ ⟨rfl, rfl, rfl, rfl, rf1.set⟩)
  · rw [hc] at hk'
    exact Goes.skip (hk' _ _ ⟨rfl, rfl, rfl, rfl, rf⟩)

theorem f_bytes (hB : B.length < 2 ^ 38) {f : Bool} (hls : hh.size < 3) (hf : hasB hh 98 = f) {s : RS} {y0 y1 y2 y4 y5 : D} (h : Fx r b6 B hh dout ρ s [y0, y1, y2, .v (.slice none 0 0), y4, y5] env σ) (k' : List Item)
    (hk' : ∀ d env σ, FD d (.slc ((optS f s).1.map bD)) → Fx r b6 B hh dout ρ (optS f s).2 [y0, y1, y2, d, y4, y5] env σ → Goes C k' env σ) :
    Goes C (.code (bodyAt Try.f14 [1, 1, 1, 0, 0, 0, 1, 0, 1, 1, 1, 1, 0]) :: k') env σ := by
  obtain ⟨e4, e5, e6, e7, rf⟩ := h
  refine Goes.seq ?_
  refine Goes.region [4, 5, 6, 7] fun K hK => ?_; simp (maxSteps := 4000000) only [go_sem, ↓reduceIte, reduceCtorEq, Nat.reduceEqDiff, Nat.reduceBEq, Int.reduceBEq, Int.reduceBNe, Nat.reduceLT, Nat.reduceLeDiff, Nat.reduceAdd, Nat.reduceSub, Nat.reduceMul, Int.reduceToNat, Int.reduceEq, Int.reduceLT, Int.reduceLE, e4, e5, e6, e7]
  refine has_v hls ?_
  simp only [go_sem, ↓reduceIte, reduceCtorEq, Nat.reduceEqDiff, Nat.reduceBEq, Int.reduceBEq, Int.reduceBNe, Nat.reduceLT, Nat.reduceLeDiff, Nat.reduceAdd, Nat.reduceSub, Nat.reduceMul, Int.reduceToNat, Int.reduceEq, Int.reduceLT, Int.reduceLE, e4, e5, e6, e7, hf]
  refine hK _ _ (Goes.cond rfl (fun hc => ?_) (fun hc => ?_)); all_goals clear hK K
  · subst hc
    refine Goes.regionM [4, 5, 6, 7] [44] fun K hK => ?_; simp (maxSteps := 4000000) only [go_sem, ↓reduceIte, reduceCtorEq, Nat.reduceEqDiff, Nat.reduceBEq, Int.reduceBEq, Int.reduceBNe, Nat.reduceLT, Nat.reduceLeDiff, Nat.reduceAdd, Nat.reduceSub, Nat.reduceMul, Int.reduceToNat, Int.reduceEq, Int.reduceLT, Int.reduceLE, e4, e5, e6, e7]
    refine ⟨_, Try.call29, (rf.text hB).mono ?_⟩
    rintro e σ1 ⟨rfl, rf1⟩
    have g6 := rf1.keep (sget_self ..)
    have hlen : (textS s).1.length < 2 ^ 46 := by
      have h1 := (takeS_len (numS s 2).2 (numS s 2).1).2
      have h2 := numS_bnd s 2 (by omega)
      show (takeS _ _).1.length < _
      omega
    simp only [go_sem, ↓reduceIte, reduceCtorEq, Nat.reduceEqDiff, Nat.reduceBEq, Int.reduceBEq, Int.reduceBNe, Nat.reduceLT, Nat.reduceLeDiff, Nat.reduceAdd, Nat.reduceSub, Nat.reduceMul, Int.reduceToNat, Int.reduceEq, Int.reduceLT, Int.reduceLE, g6, e6]
    refine ⟨⟨by simpa using hlen, fun b => by simp⟩, hK _ _ (hk' (.slc ((textS s).1.map bD)) _ _ (FD.slc _) ⟨rfl, rfl, rfl, rfl, rf1.set⟩)⟩
  · rw [hc] at hk'
    exact Goes.skip (hk' _ _ _ FD.nil ⟨rfl, rfl, rfl, rfl, rf⟩)

theorem f_bad {s : RS} {ys : List D} (h : Fx r b6 B hh dout ρ s ys env σ) (k' : List Item)
    (hret : s.2 = true → ∀ k env σ, eget 2 env = .v (.slice none 0 0) → eget 3 env = .v (.int .i64 2) → Goes C (.code .ret :: k) env σ)
    (hk' : s.2 = false → ∀ env σ, Fx r b6 B hh dout ρ s ys env σ → Goes C k' env σ) :
    Goes C (.code (bodyAt Try.f14 [1, 1, 1, 0, 0, 0, 1, 0, 1, 1, 1, 1, 1, 0]) :: k') env σ := by
  obtain ⟨e4, e5, e6, e7, rf⟩ := h
  obtain ⟨a, _, _, hr⟩ := rf.row
  refine Goes.seq ?_
  refine Goes.region [4, 5, 6, 7] fun K hK => ?_; simp (maxSteps := 4000000) only [go_sem, ↓reduceIte, reduceCtorEq, Nat.reduceEqDiff, Nat.reduceBEq, Int.reduceBEq, Int.reduceBNe, Nat.reduceLT, Nat.reduceLeDiff, Nat.reduceAdd, Nat.reduceSub, Nat.reduceMul, Int.reduceToNat, Int.reduceEq, Int.reduceLT, Int.reduceLE, e4, e5, e6, e7, hr]
  refine hK _ _ (Goes.cond rfl (fun hc => ?_) (fun hc => ?_)); all_goals clear hK K
  · refine Goes.seq ?_
    refine Goes.region [] fun K hK => ?_; simp (maxSteps := 4000000) only [go_sem, ↓reduceIte, reduceCtorEq, Nat.reduceEqDiff, Nat.reduceBEq, Int.reduceBEq, Int.reduceBNe, Nat.reduceLT, Nat.reduceLeDiff, Nat.reduceAdd, Nat.reduceSub, Nat.reduceMul, Int.reduceToNat, Int.reduceEq, Int.reduceLT, Int.reduceLE]
    refine hK _ _ ?_; clear hK K
    exact hret hc _ _ _ rfl rfl
  · exact Goes.skip (hk' hc _ _ ⟨rfl, rfl, rfl, rfl, rf⟩)

theorem f_num (hB : B.length < 2 ^ 38) {f : Bool} {k : Int} (hls : hh.size < 3) (hf : hasB hh 105 = f) (h9 : k = 9 → f = true) {bs : List UInt8} {y2 y3 y4 y5 : D} (h : Fx r b6 B hh dout ρ (bs, false) [.v (.int .i64 k), .v (.int .i64 0), y2, y3, y4, y5] env σ) (k' : List Item)
    (hret : ∀ c, nR f k bs = .err c → ∀ k env σ, eget 2 env = .v (.slice none 0 0) → eget 3 env = .v (.int .i64 c) → Goes C (.code .ret :: k) env σ)
    (hk' : ∀ n bs', nR f k bs = .ok n bs' → ∀ env σ, Fx r b6 B hh dout ρ (bs', false) [.v (.int .i64 k), .v (.int .i64 n), y2, y3, y4, y5] env σ → Goes C k' env σ) :
    Goes C (.code (bodyAt Try.f14 [1, 1, 1, 0, 0, 0, 1, 0, 1, 1, 1, 1, 1, 1, 0]) :: k') env σ := by
  obtain ⟨e4, e5, e6, e7, rf⟩ := h
  have g6 := rf.keep (sget_self ..)
  refine Goes.seq ?_
  refine Goes.region [4, 5, 6, 7] fun K hK => ?_; simp (maxSteps := 4000000) only [go_sem, ↓reduceIte, reduceCtorEq, Nat.reduceEqDiff, Nat.reduceBEq, Int.reduceBEq, Int.reduceBNe, Nat.reduceLT, Nat.reduceLeDiff, Nat.reduceAdd, Nat.reduceSub, Nat.reduceMul, Int.reduceToNat, Int.reduceEq, Int.reduceLT, Int.reduceLE, e4, e5, e6, e7, g6]
  refine hK _ _ (Goes.cond rfl (fun hc => ?_) (fun hc => ?_)); all_goals clear hK K
  · have hk : k = 9 := by simpa using hc
    have hf1 := h9 hk
    rw [hf1] at hret hk'
    have ho : nR true k bs = armR bs := by unfold nR; rw [if_pos rfl, if_pos hk]
    rw [ho] at hret hk'
    unfold armR at hret hk'
    have hb := numS_bnd (bs, false) 4 (by omega)
    have hw : IntKind.i64.wrap (((numS (bs, false) 4).1 : Nat) : Int) = (((numS (bs, false) 4).1 : Nat) : Int) := wrap_in _ (by omega) (by omega)
    refine Goes.seq ?_
    refine Goes.region [4, 5, 6, 7] fun K hK => ?_; simp (maxSteps := 4000000) only [go_sem, ↓reduceIte, reduceCtorEq, Nat.reduceEqDiff, Nat.reduceBEq, Int.reduceBEq, Int.reduceBNe, Nat.reduceLT, Nat.reduceLeDiff, Nat.reduceAdd, Nat.reduceSub, Nat.reduceMul, Int.reduceToNat, Int.reduceEq, Int.reduceLT, Int.reduceLE, e4, e5, e6, e7]
    refine ⟨_, Try.call28, (rf.number 4 hB (by omega)).mono ?_⟩
    rintro e σ1 ⟨rfl, rf1⟩
    obtain ⟨a, _, _, hr⟩ := rf1.row
    simp only [go_sem, ↓reduceIte, reduceCtorEq, Nat.reduceEqDiff, Nat.reduceBEq, Int.reduceBEq, Int.reduceBNe, Nat.reduceLT, Nat.reduceLeDiff, Nat.reduceAdd, Nat.reduceSub, Nat.reduceMul, Int.reduceToNat, Int.reduceEq, Int.reduceLT, Int.reduceLE, hw]
    refine hK _ _ ?_; clear hK K
    refine Goes.seq ?_
    refine Goes.seq ?_
    refine Goes.region [4, 5, 6, 7, 8] fun K hK => ?_; simp (maxSteps := 4000000) only [go_sem, ↓reduceIte, reduceCtorEq, Nat.reduceEqDiff, Nat.reduceBEq, Int.reduceBEq, Int.reduceBNe, Nat.reduceLT, Nat.reduceLeDiff, Nat.reduceAdd, Nat.reduceSub, Nat.reduceMul, Int.reduceToNat, Int.reduceEq, Int.reduceLT, Int.reduceLE, e4, e5, e6, e7, hr]
    refine hK _ _ (Goes.cond rfl (fun hc2 => ?_) (fun hc2 => ?_)); all_goals clear hK K
    · refine Goes.seq ?_
      refine Goes.region [] fun K hK => ?_; simp (maxSteps := 4000000) only [go_sem, ↓reduceIte, reduceCtorEq, Nat.reduceEqDiff, Nat.reduceBEq, Int.reduceBEq, Int.reduceBNe, Nat.reduceLT, Nat.reduceLeDiff, Nat.reduceAdd, Nat.reduceSub, Nat.reduceMul, Int.reduceToNat, Int.reduceEq, Int.reduceLT, Int.reduceLE]
      refine hK _ _ ?_; clear hK K
      exact hret 2 (if_pos hc2) _ _ _ rfl rfl
    · have hq := hk' _ _ (if_neg (by rw [hc2]; simp))
      have he : (numS (bs, false) 4).2 = ((numS (bs, false) 4).2.1, false) := Prod.ext rfl hc2
      rw [he] at rf1
      have g61 := rf1.keep (sget_self ..)
      refine Goes.skip ?_
      refine Goes.seq ?_
      refine Goes.seq ?_
      refine Goes.region [4, 5, 6, 7, 8] fun K hK => ?_; simp (maxSteps := 4000000) only [go_sem, ↓reduceIte, reduceCtorEq, Nat.reduceEqDiff, Nat.reduceBEq, Int.reduceBEq, Int.reduceBNe, Nat.reduceLT, Nat.reduceLeDiff, Nat.reduceAdd, Nat.reduceSub, Nat.reduceMul, Int.reduceToNat, Int.reduceEq, Int.reduceLT, Int.reduceLE, e4, e5, e6, e7]
      refine hK _ _ (Goes.cond rfl (fun hc3 => ?_) (fun hc3 => ?_)); all_goals clear hK K
      · have h31 : 2147483648 ≤ (numS (bs, false) 4).1 := by simp at hc3; omega
        have hw2 : IntKind.i64.wrap ((((numS (bs, false) 4).1 : Nat) : Int) - 4294967296) = IntKind.i32.wrap (((numS (bs, false) 4).1 : Nat) : Int) := by
          simp [IntKind.wrap, IntKind.bits, IntKind.signed]; omega
        refine Goes.region [4, 5, 6, 7, 8] fun K hK => ?_; simp (maxSteps := 4000000) only [go_sem, ↓reduceIte, reduceCtorEq, Nat.reduceEqDiff, Nat.reduceBEq, Int.reduceBEq, Int.reduceBNe, Nat.reduceLT, Nat.reduceLeDiff, Nat.reduceAdd, Nat.reduceSub, Nat.reduceMul, Int.reduceToNat, Int.reduceEq, Int.reduceLT, Int.reduceLE, e4, e5, e6, e7, hw2]
        refine hK _ _ ?_; clear hK K
        refine Goes.region [4, 5, 6, 7, 8] fun K hK => ?_; simp (maxSteps := 4000000) only [go_sem, ↓reduceIte, reduceCtorEq, Nat.reduceEqDiff, Nat.reduceBEq, Int.reduceBEq, Int.reduceBNe, Nat.reduceLT, Nat.reduceLeDiff, Nat.reduceAdd, Nat.reduceSub, Nat.reduceMul, Int.reduceToNat, Int.reduceEq, Int.reduceLT, Int.reduceLE, e4, e5, e6, e7, g61]
        refine hK _ _ (hq _ _ ⟨rfl, rfl, rfl, rfl, rf1.set⟩)
      · have h31 : (numS (bs, false) 4).1 < 2147483648 := by simp at hc3; omega
        have hw2 : IntKind.i32.wrap (((numS (bs, false) 4).1 : Nat) : Int) = (((numS (bs, false) 4).1 : Nat) : Int) := by
          simp [IntKind.wrap, IntKind.bits, IntKind.signed]; omega
        rw [hw2] at hq
        refine Goes.skip ?_
        refine Goes.region [4, 5, 6, 7, 8] fun K hK => ?_; simp (maxSteps := 4000000) only [go_sem, ↓reduceIte, reduceCtorEq, Nat.reduceEqDiff, Nat.reduceBEq, Int.reduceBEq, Int.reduceBNe, Nat.reduceLT, Nat.reduceLeDiff, Nat.reduceAdd, Nat.reduceSub, Nat.reduceMul, Int.reduceToNat, Int.reduceEq, Int.reduceLT, Int.reduceLE, e4, e5, e6, e7, g61]
        refine hK _ _ (hq _ _ ⟨rfl, rfl, rfl, rfl, rf1.set⟩)
  · have hk : k ≠ 9 := by simpa using hc
    refine Goes.seq ?_
    refine Goes.region [4, 5, 6, 7] fun K hK => ?_; simp (maxSteps := 4000000) only [go_sem, ↓reduceIte, reduceCtorEq, Nat.reduceEqDiff, Nat.reduceBEq, Int.reduceBEq, Int.reduceBNe, Nat.reduceLT, Nat.reduceLeDiff, Nat.reduceAdd, Nat.reduceSub, Nat.reduceMul, Int.reduceToNat, Int.reduceEq, Int.reduceLT, Int.reduceLE, e4, e5, e6, e7]
    refine has_v hls ?_
    simp only [go_sem, ↓reduceIte, reduceCtorEq, Nat.reduceEqDiff, Nat.reduceBEq, Int.reduceBEq, Int.reduceBNe, Nat.reduceLT, Nat.reduceLeDiff, Nat.reduceAdd, Nat.reduceSub, Nat.reduceMul, Int.reduceToNat, Int.reduceEq, Int.reduceLT, Int.reduceLE, e4, e5, e6, e7, hf]
    refine hK _ _ (Goes.cond rfl (fun hc2 => ?_) (fun hc2 => ?_)); all_goals clear hK K
    · have hc2 : f = true := hc2
      subst hc2
      have ho : nR true k bs = numR bs := by unfold nR; rw [if_pos rfl, if_neg hk]
      rw [ho] at hret hk'
      refine Goes.seq ?_
      refine Goes.region [4, 5, 6, 7] fun K hK => ?_; simp (maxSteps := 4000000) only [go_sem, ↓reduceIte, reduceCtorEq, Nat.reduceEqDiff, Nat.reduceBEq, Int.reduceBEq, Int.reduceBNe, Nat.reduceLT, Nat.reduceLeDiff, Nat.reduceAdd, Nat.reduceSub, Nat.reduceMul, Int.reduceToNat, Int.reduceEq, Int.reduceLT, Int.reduceLE, e4, e5, e6, e7]
      refine ⟨_, Try.call30, (rf.num hB).mono ?_⟩
      intro e σ1 hR
      cases hx : numR bs with
      | err c =>
        rw [hx] at hR
        obtain rfl := hR
        simp only [go_sem, ↓reduceIte, reduceCtorEq, Nat.reduceEqDiff, Nat.reduceBEq, Int.reduceBEq, Int.reduceBNe, Nat.reduceLT, Nat.reduceLeDiff, Nat.reduceAdd, Nat.reduceSub, Nat.reduceMul, Int.reduceToNat, Int.reduceEq, Int.reduceLT, Int.reduceLE]
        refine hK _ _ ?_; clear hK K
        have hc0 : (c != 0) = true := by rcases numR_errs hx with h | h <;> rw [h] <;> rfl
        refine Goes.seq ?_
        refine Goes.seq ?_
        refine Goes.region [10] fun K hK => ?_; simp (maxSteps := 4000000) only [go_sem, ↓reduceIte, reduceCtorEq, Nat.reduceEqDiff, Nat.reduceBEq, Int.reduceBEq, Int.reduceBNe, Nat.reduceLT, Nat.reduceLeDiff, Nat.reduceAdd, Nat.reduceSub, Nat.reduceMul, Int.reduceToNat, Int.reduceEq, Int.reduceLT, Int.reduceLE, hc0]
        refine hK _ _ (Goes.condT rfl ?_); clear hK K
        refine Goes.seq ?_
        refine Goes.region [10] fun K hK => ?_; simp (maxSteps := 4000000) only [go_sem, ↓reduceIte, reduceCtorEq, Nat.reduceEqDiff, Nat.reduceBEq, Int.reduceBEq, Int.reduceBNe, Nat.reduceLT, Nat.reduceLeDiff, Nat.reduceAdd, Nat.reduceSub, Nat.reduceMul, Int.reduceToNat, Int.reduceEq, Int.reduceLT, Int.reduceLE]
        refine hK _ _ ?_; clear hK K
        exact hret c hx _ _ _ rfl rfl
      | ok n bs' =>
        rw [hx] at hR
        obtain ⟨rfl, rf1⟩ := hR
        have g61 := rf1.keep (sget_self ..)
        simp only [go_sem, ↓reduceIte, reduceCtorEq, Nat.reduceEqDiff, Nat.reduceBEq, Int.reduceBEq, Int.reduceBNe, Nat.reduceLT, Nat.reduceLeDiff, Nat.reduceAdd, Nat.reduceSub, Nat.reduceMul, Int.reduceToNat, Int.reduceEq, Int.reduceLT, Int.reduceLE]
        refine hK _ _ ?_; clear hK K
        refine Goes.seq ?_
        refine Goes.seq ?_
        refine Goes.region [4, 5, 6, 7, 9, 10] fun K hK => ?_; simp (maxSteps := 4000000) only [go_sem, ↓reduceIte, reduceCtorEq, Nat.reduceEqDiff, Nat.reduceBEq, Int.reduceBEq, Int.reduceBNe, Nat.reduceLT, Nat.reduceLeDiff, Nat.reduceAdd, Nat.reduceSub, Nat.reduceMul, Int.reduceToNat, Int.reduceEq, Int.reduceLT, Int.reduceLE, e4, e5, e6, e7]
        refine hK _ _ (Goes.condF rfl ?_); clear hK K
        refine Goes.skip ?_
        refine Goes.region [4, 5, 6, 7, 9] fun K hK => ?_; simp (maxSteps := 4000000) only [go_sem, ↓reduceIte, reduceCtorEq, Nat.reduceEqDiff, Nat.reduceBEq, Int.reduceBEq, Int.reduceBNe, Nat.reduceLT, Nat.reduceLeDiff, Nat.reduceAdd, Nat.reduceSub, Nat.reduceMul, Int.reduceToNat, Int.reduceEq, Int.reduceLT, Int.reduceLE, e4, e5, e6, e7, g61]
        refine hK _ _ (hk' n bs' hx _ _ ⟨rfl, rfl, rfl, rfl, rf1.set⟩)
    · have hc2 : f = false := hc2
      refine Goes.skip (hk' 0 bs ?_ _ _ ⟨rfl, rfl, rfl, rfl, rf⟩)
      unfold nR; rw [hc2]; rfl
end
end Go.Ab.S21

/- Layer 21: the document's Read: an act's names and tails. -/
namespace Go.Ab.S21
open Go Go.Proofs

/-- A row of one's own behind an append, beside a reader's row. -/
theorem next_row {r : Nat} {X : AObj} {ob : Option Nat} {sz : Nat} {xs : List D} {x : D} {ρ : Store} (hr : sget r ρ = none) (hz : ob = none → xs ++ [x] = []) (hf : Fresh ob ((r, X) :: ρ)) :
    (∀ b y, sget b ρ = some y → sget b (cellsOf ob sz (xs ++ [x]) ++ (r, X) :: ρ) = some y) ∧
    ∀ (c : Nat) (y0 row : AObj), sget c ρ = some y0 → SLe ((r, X) :: (cellsOf ob sz (xs ++ [x]) ++ sset c row ρ)) (sset c row (cellsOf ob sz (xs ++ [x]) ++ (r, X) :: ρ)) ∧ sget r (cellsOf ob sz (xs ++ [x]) ++ sset c row ρ) = none ∧ GrD ob sz (xs ++ [x]) (sset c row ρ) := by
  obtain ⟨b, rfl⟩ : ∃ b, ob = some b := by
    cases ob with
    | none => have := hz rfl; simp at this
    | some b => exact ⟨b, rfl⟩
  have hb := hf b rfl
  have hbr : b ≠ r := fun e => by rw [e, sget_self] at hb; cases hb
  have hb2 : sget b ρ = none := by rw [sget_cons, if_neg hbr] at hb; exact hb
  have hne : ∀ c y, sget c ρ = some y → c ≠ b ∧ c ≠ r := fun c y hc => ⟨(fun e => by subst e; rw [hb2] at hc; cases hc), (fun e => by subst e; rw [hr] at hc; cases hc)⟩
  have key : ∀ c y, sget c ρ = some y → sget c (cellsOf (some b) sz (xs ++ [x]) ++ (r, X) :: ρ) = some y := fun c y hc => by
    obtain ⟨q1, q2⟩ := hne c y hc
    show sget c ((b, _) :: (r, _) :: ρ) = _
    rw [sget_cons, if_neg q1, sget_cons, if_neg q2, hc]
  refine ⟨key, fun c y0 row hc0 => ?_⟩
  obtain ⟨q1, q2⟩ := hne c y0 hc0
  have hrz : ∀ d, sget d ρ = none → sget d (sset c row ρ) = none := fun d hd => by
    rw [sget_sset]
    split
    · rename_i e; rw [e, hc0] at hd; cases hd
    · exact hd
  refine ⟨SLe.cons ?_ (SLe.append (SLe.cons ?_ (SLe.nil _)) fun d y hd => ?_), ?_, ⟨fun d hd => ?_, fun e => by cases e⟩⟩
  · rw [sget_sset, if_neg (fun e => q2 e.symm)]
    show sget r ((b, _) :: (r, _) :: ρ) = _
    rw [sget_cons, if_neg (fun e => hbr e.symm), sget_self]
  · rw [sget_sset, if_neg (fun e => q1 e.symm)]; simp [cellsOf, sget]
  · rw [sget_sset] at hd ⊢
    by_cases hdc : d = c
    · rw [if_pos hdc, hc0] at hd
      rw [if_pos hdc, key c y0 hc0]; exact hd
    · rw [if_neg hdc] at hd
      rw [if_neg hdc]; exact key d y hd
  · show sget r ((b, _) :: sset c row ρ) = none
    rw [sget_cons, if_neg (fun e => hbr e.symm)]; exact hrz r hr
  · cases hd; exact hrz b hb2

/-- A row of one's own beside the document's reader's row. -/
structure RGF (r : Nat) (B : List UInt8) (s : RS) (o : Option Nat) (sz : Nat) (xs : List D) (ρ σ : Store) : Prop where
  rt : RF r B s (cellsOf o sz xs ++ ρ) σ
  gr : GrD o sz xs ρ

section
variable {r : Nat} {B : List UInt8} {s : RS} {o : Option Nat} {sz : Nat} {xs : List D} {ρ σ : Store} (h : RGF r B s o sz xs ρ σ)
include h
theorem RGF.or : o ≠ some r := fun e => by
  have := h.rt.apart
  rw [e] at this; simp [cellsOf, sget] at this
theorem RGF.rr : sget r ρ = none := none_of_sle h.gr.sle h.rt.apart
theorem RGF.keep {b : Nat} {x : AObj} (hb : sget b ρ = some x) : sget b σ = some x := h.rt.keep (h.gr.keep hb)
theorem RGF.oget : oget sz o σ = some xs := by
  obtain ⟨a, _, _, _, rfl⟩ := h.rt.ex
  cases o with
  | none => simp [Ab.oget, h.gr.zero rfl]
  | some b =>
    have hne : b ≠ r := fun e => h.or (by rw [e])
    show Ab.oget sz (some b) ((r, _) :: (b, _) :: _) = _
    rw [oget_ne hne, oget_self]
theorem RGF.sdel : ∃ X, sdelo o σ = (r, X) :: ρ ∧ (∀ τ, sget r τ = none → RF r B s τ ((r, X) :: τ)) := by
  obtain ⟨a, h1, h2, h3, rfl⟩ := h.rt.ex
  refine ⟨.arr 3 [.agg [.slc (B.map bD), .v (.int .i64 a), .v (.bool s.2)]], ?_, fun τ hτ => ⟨⟨a, h1, h2, h3, rfl⟩, hτ⟩⟩
  cases o with
  | none => rfl
  | some b =>
    have hne : b ≠ r := fun e => h.or (by rw [e])
    show Ab.sdel b ((r, _) :: (b, _) :: ρ) = (r, _) :: _
    rw [sdel_ne hne, sdel_self, sdel_fresh (h.gr.fresh b rfl)]
end
end Go.Ab.S21

/- Layer 21: the document's Read: an act's names. -/
namespace Go.Ab.S21
open Go Go.Proofs

section
variable {C : Ctx Try.prog ⟨139, []⟩} {r b6 : Nat} {B : List UInt8} {hh : ByteArray} {dout : D} {ρ : Store} {env : Env} {σ : Store}

set_option maxHeartbeats 800000 in
theorem f_names (hB : B.length < 2 ^ 38) {f : Bool} (hls : hh.size < 3) (hf : hasB hh 108 = f) {bs : List UInt8} {y0 y1 y2 y3 y5 : D} (h : Fx r b6 B hh dout ρ (bs, false) [y0, y1, y2, y3, .v (.slice none 0 0), y5] env σ)
    (hρ : ∀ c o, sget c ρ = some o → ∀ b sz xs, o.pub b sz xs = o) (hd : ∀ b, sget b ρ = none → ∀ sz xs, D.pub b sz xs dout = dout) (hb6 : sget b6 ρ = none)
    (hy : ∀ y ∈ [y0, y1, y2, y3, y5], ∀ b sz xs, D.pub b sz xs y = y) (k' : List Item)
    (hret : ∀ c, optR f (listR textR) [] bs = .err c → ∀ k env σ, eget 2 env = .v (.slice none 0 0) → eget 3 env = .v (.int .i64 c) → Goes C (.code .ret :: k) env σ)
    (hk' : ∀ ns bs', optR f (listR textR) [] bs = .ok ns bs' → ∀ d env σ, FD d (.slc (ns.map sD)) → Fx r b6 B hh dout ρ (bs', false) [y0, y1, y2, y3, d, y5] env σ → Goes C k' env σ) :
    Goes C (.code (bodyAt Try.f14 [1, 1, 1, 0, 0, 0, 1, 0, 1, 1, 1, 1, 1, 1, 1, 0]) :: k') env σ := by
  have hlB := h.rf.len
  obtain ⟨e4, e5, e6, e7, rf⟩ := h
  refine Goes.seq ?_
  refine Goes.region [4, 5, 6, 7] fun K hK => ?_; simp (maxSteps := 4000000) only [go_sem, ↓reduceIte, reduceCtorEq, Nat.reduceEqDiff, Nat.reduceBEq, Int.reduceBEq, Int.reduceBNe, Nat.reduceLT, Nat.reduceLeDiff, Nat.reduceAdd, Nat.reduceSub, Nat.reduceMul, Int.reduceToNat, Int.reduceEq, Int.reduceLT, Int.reduceLE, e4, e5, e6, e7]
  refine has_v hls ?_
  simp only [go_sem, ↓reduceIte, reduceCtorEq, Nat.reduceEqDiff, Nat.reduceBEq, Int.reduceBEq, Int.reduceBNe, Nat.reduceLT, Nat.reduceLeDiff, Nat.reduceAdd, Nat.reduceSub, Nat.reduceMul, Int.reduceToNat, Int.reduceEq, Int.reduceLT, Int.reduceLE, e4, e5, e6, e7, hf]
  refine hK _ _ (Goes.cond rfl (fun hc => ?_) (fun hc => ?_)); all_goals clear hK K
  rotate_left
  · have hc : f = false := hc
    exact Goes.skip (hk' _ _ (if_neg (by rw [hc]; simp)) _ _ _ FD.nil ⟨rfl, rfl, rfl, rfl, rf⟩)
  have hc : f = true := hc
  have ho : optR f (listR textR) [] bs = listR textR bs := if_pos hc
  rw [ho] at hret hk'
  unfold listR at hret hk'
  refine Goes.seq ?_
  refine Goes.region [4, 5, 6, 7] fun K hK => ?_; simp (maxSteps := 4000000) only [go_sem, ↓reduceIte, reduceCtorEq, Nat.reduceEqDiff, Nat.reduceBEq, Int.reduceBEq, Int.reduceBNe, Nat.reduceLT, Nat.reduceLeDiff, Nat.reduceAdd, Nat.reduceSub, Nat.reduceMul, Int.reduceToNat, Int.reduceEq, Int.reduceLT, Int.reduceLE, e4, e5, e6, e7]
  refine ⟨_, Try.call30, (rf.num hB).mono ?_⟩
  intro e σ1 hR
  cases hx : numR bs with
  | err c =>
    rw [hx] at hR
    obtain rfl := hR
    simp only [go_sem, ↓reduceIte, reduceCtorEq, Nat.reduceEqDiff, Nat.reduceBEq, Int.reduceBEq, Int.reduceBNe, Nat.reduceLT, Nat.reduceLeDiff, Nat.reduceAdd, Nat.reduceSub, Nat.reduceMul, Int.reduceToNat, Int.reduceEq, Int.reduceLT, Int.reduceLE]
    refine hK _ _ ?_; clear hK K
    have hc0 : (c != 0) = true := by rcases numR_errs hx with h | h <;> rw [h] <;> rfl
    refine Goes.seq ?_
    refine Goes.seq ?_
    refine Goes.region [12] fun K hK => ?_; simp (maxSteps := 4000000) only [go_sem, ↓reduceIte, reduceCtorEq, Nat.reduceEqDiff, Nat.reduceBEq, Int.reduceBEq, Int.reduceBNe, Nat.reduceLT, Nat.reduceLeDiff, Nat.reduceAdd, Nat.reduceSub, Nat.reduceMul, Int.reduceToNat, Int.reduceEq, Int.reduceLT, Int.reduceLE, hc0]
    refine hK _ _ (Goes.condT rfl ?_); clear hK K
    refine Goes.seq ?_
    refine Goes.region [12] fun K hK => ?_; simp (maxSteps := 4000000) only [go_sem, ↓reduceIte, reduceCtorEq, Nat.reduceEqDiff, Nat.reduceBEq, Int.reduceBEq, Int.reduceBNe, Nat.reduceLT, Nat.reduceLeDiff, Nat.reduceAdd, Nat.reduceSub, Nat.reduceMul, Int.reduceToNat, Int.reduceEq, Int.reduceLT, Int.reduceLE]
    refine hK _ _ ?_; clear hK K
    exact hret c (by rw [hx]; rfl) _ _ _ rfl rfl
  | ok n bs1 =>
  rw [hx] at hR hret hk'
  obtain ⟨rfl, rf1⟩ := hR
  obtain ⟨hn0, hn1, hl1⟩ := numR_ok hx
  simp only [Res.bind] at hret hk'
  obtain ⟨N, rfl⟩ : ∃ N : Nat, n = (N : Int) := ⟨n.toNat, by omega⟩
  simp only [Int.toNat_natCast] at hret hk'
  have g6 := rf1.keep (sget_self ..)
  simp only [go_sem, ↓reduceIte, reduceCtorEq, Nat.reduceEqDiff, Nat.reduceBEq, Int.reduceBEq, Int.reduceBNe, Nat.reduceLT, Nat.reduceLeDiff, Nat.reduceAdd, Nat.reduceSub, Nat.reduceMul, Int.reduceToNat, Int.reduceEq, Int.reduceLT, Int.reduceLE]
  refine hK _ _ ?_; clear hK K
  refine Goes.seq ?_
  refine Goes.seq ?_
  refine Goes.region [4, 5, 6, 7, 11, 12] fun K hK => ?_; simp (maxSteps := 4000000) only [go_sem, ↓reduceIte, reduceCtorEq, Nat.reduceEqDiff, Nat.reduceBEq, Int.reduceBEq, Int.reduceBNe, Nat.reduceLT, Nat.reduceLeDiff, Nat.reduceAdd, Nat.reduceSub, Nat.reduceMul, Int.reduceToNat, Int.reduceEq, Int.reduceLT, Int.reduceLE, e4, e5, e6, e7]
  refine hK _ _ (Goes.condF rfl ?_); clear hK K
  refine Goes.skip ?_
  refine Goes.row_at (b := b6) (ys := [.agg [y0, y1, y2, y3, .own none 1 0, y5]]) g6 (fun w S vs h => ?_) (fun y hy => by simp at hy; rw [hy]; rfl) ?_
  · obtain ⟨a0, r0, rfl, q0, h⟩ := h.cons_inv
    obtain ⟨a1, r1, rfl, q1, h⟩ := h.cons_inv
    obtain ⟨a2, r2, rfl, q2, h⟩ := h.cons_inv
    obtain ⟨a3, r3, rfl, q3, h⟩ := h.cons_inv
    obtain ⟨a4, r4, rfl, q4, h⟩ := h.cons_inv
    exact .cons q0 (.cons q1 (.cons q2 (.cons q3 (.cons (DLe.nil_own 1 _ _ _ q4) h))))
  have hrg : RGF r B (bs1, false) none 1 [] ((b6, .arr 6 [.agg [y0, y1, y2, y3, .own none 1 0, y5]]) :: ρ) (sset b6 (.arr 6 [.agg [y0, y1, y2, y3, .own none 1 0, y5]]) σ1) := ⟨rf1.set, GrD.nil _ _⟩
  generalize sset b6 (.arr 6 [.agg [y0, y1, y2, y3, .own none 1 0, y5]]) σ1 = σ2 at hrg ⊢
  refine Goes.seq ?_
  refine Goes.region [4, 5, 6, 7, 11] fun K hK => ?_; simp (maxSteps := 4000000) only [go_sem, ↓reduceIte, reduceCtorEq, Nat.reduceEqDiff, Nat.reduceBEq, Int.reduceBEq, Int.reduceBNe, Nat.reduceLT, Nat.reduceLeDiff, Nat.reduceAdd, Nat.reduceSub, Nat.reduceMul, Int.reduceToNat, Int.reduceEq, Int.reduceLT, Int.reduceLE]
  refine hK _ _ ?_; clear hK K
  refine Goes.rebase [4, 5, 6, 7, 11, 13] ?_
  simp only [go_sem, ↓reduceIte, reduceCtorEq, Nat.reduceEqDiff, Nat.reduceBEq, Int.reduceBEq, Int.reduceBNe, Nat.reduceLT, Nat.reduceLeDiff, Nat.reduceAdd, Nat.reduceSub, Nat.reduceMul, Int.reduceToNat, Int.reduceEq, Int.reduceLT, Int.reduceLE]
  refine Goes.block ?_
  refine Goes.while (fun (i : Nat) env' σ' => i ≤ N ∧ ∃ o li bsi, li.length = i ∧ bsi.length ≤ bs1.length ∧ manyR textR N bs1 = (manyR textR (N - i) bsi).bind (fun l b => .ok (li ++ l) b) ∧
    env' = [(4, .ptr r 3 0 0), (5, dout), (6, .ptr b6 6 0 0), (7, .v (.string hh)), (11, .v (.int .i64 (N : Int))), (13, .v (.int .i64 (i : Int)))] ∧ RGF r B (bsi, false) o 1 (li.map sD) ((b6, .arr 6 [.agg [y0, y1, y2, y3, .own o 1 i, y5]]) :: ρ) σ') (fun i => N - i) 0
    ⟨by omega, none, [], bs1, rfl, Nat.le_refl _, by cases manyR textR N bs1 <;> rfl, rfl, hrg⟩ ?_
  clear hrg g6 rf1 rf
  rintro i env' σ' ⟨hi, o, li, bsi, hli, hbl, hm, rfl, hrg⟩ ih
  refine Goes.seq ?_
  refine Goes.seq ?_
  refine Goes.region [4, 5, 6, 7, 11, 13] fun K hK => ?_; simp (maxSteps := 4000000) only [go_sem, ↓reduceIte, reduceCtorEq, Nat.reduceEqDiff, Nat.reduceBEq, Int.reduceBEq, Int.reduceBNe, Nat.reduceLT, Nat.reduceLeDiff, Nat.reduceAdd, Nat.reduceSub, Nat.reduceMul, Int.reduceToNat, Int.reduceEq, Int.reduceLT, Int.reduceLE]
  refine hK _ _ ?_; clear hK K
  refine Goes.cond rfl (fun hc => ?_) (fun hc => ?_)
  · have hlt : i < N := by simpa using hc
    refine Goes.skip ?_
    refine Goes.seq ?_
    refine Goes.block ?_
    refine Goes.seq ?_
    refine Goes.region [4, 5, 6, 7, 11, 13] fun K hK => ?_; simp (maxSteps := 4000000) only [go_sem, ↓reduceIte, reduceCtorEq, Nat.reduceEqDiff, Nat.reduceBEq, Int.reduceBEq, Int.reduceBNe, Nat.reduceLT, Nat.reduceLeDiff, Nat.reduceAdd, Nat.reduceSub, Nat.reduceMul, Int.reduceToNat, Int.reduceEq, Int.reduceLT, Int.reduceLE]
    refine ⟨_, Try.call29, (hrg.rt.text hB).mono ?_⟩
    rintro e σ3 ⟨rfl, rf3⟩
    obtain ⟨a, _, _, hr⟩ := rf3.row
    simp only [go_sem, ↓reduceIte, reduceCtorEq, Nat.reduceEqDiff, Nat.reduceBEq, Int.reduceBEq, Int.reduceBNe, Nat.reduceLT, Nat.reduceLeDiff, Nat.reduceAdd, Nat.reduceSub, Nat.reduceMul, Int.reduceToNat, Int.reduceEq, Int.reduceLT, Int.reduceLE]
    refine hK _ _ ?_; clear hK K
    refine Goes.seq ?_
    refine Goes.seq ?_
    refine Goes.region [4, 5, 6, 7, 11, 13, 14] fun K hK => ?_; simp (maxSteps := 4000000) only [go_sem, ↓reduceIte, reduceCtorEq, Nat.reduceEqDiff, Nat.reduceBEq, Int.reduceBEq, Int.reduceBNe, Nat.reduceLT, Nat.reduceLeDiff, Nat.reduceAdd, Nat.reduceSub, Nat.reduceMul, Int.reduceToNat, Int.reduceEq, Int.reduceLT, Int.reduceLE, hr]
    refine hK _ _ (Goes.cond rfl (fun hc2 => ?_) (fun hc2 => ?_)); all_goals clear hK K
    · have hx2 : textR bsi = .err 2 := if_pos hc2
      refine Goes.seq ?_
      refine Goes.region [] fun K hK => ?_; simp (maxSteps := 4000000) only [go_sem, ↓reduceIte, reduceCtorEq, Nat.reduceEqDiff, Nat.reduceBEq, Int.reduceBEq, Int.reduceBNe, Nat.reduceLT, Nat.reduceLeDiff, Nat.reduceAdd, Nat.reduceSub, Nat.reduceMul, Int.reduceToNat, Int.reduceEq, Int.reduceLT, Int.reduceLE]
      refine hK _ _ ?_; clear hK K
      exact hret 2 (many_err hlt hm hx2) _ _ _ rfl rfl
    have hx2 : textR bsi = .ok ⟨(textS (bsi, false)).1.toArray⟩ (textS (bsi, false)).2.1 := if_neg (by rw [hc2]; simp)
    have he : (textS (bsi, false)).2 = ((textS (bsi, false)).2.1, false) := Prod.ext rfl hc2
    generalize hs : (⟨(textS (bsi, false)).1.toArray⟩ : ByteArray) = s at hx2 ⊢
    generalize hbs' : (textS (bsi, false)).2.1 = bs' at hx2 he
    rw [he] at rf3
    have hrg3 : RGF r B (bs', false) o 1 (li.map sD) _ σ3 := ⟨rf3, hrg.gr⟩
    have g6 := hrg3.keep (b := b6) (sget_self ..)
    have ho3 := hrg3.oget
    obtain ⟨X, hd3, hX⟩ := hrg3.sdel
    have hml : (li.map sD).length = i := by simp [hli]
    have htk : List.take i (li.map sD) = li.map sD := List.take_of_length_le (by omega)
    refine Goes.skip ?_
    refine Goes.regionM [4, 5, 6, 7, 11, 13, 14] [102] fun K hK => ?_; simp (maxSteps := 4000000) only [go_sem, ↓reduceIte, reduceCtorEq, Nat.reduceEqDiff, Nat.reduceBEq, Int.reduceBEq, Int.reduceBNe, Nat.reduceLT, Nat.reduceLeDiff, Nat.reduceAdd, Nat.reduceSub, Nat.reduceMul, Int.reduceToNat, Int.reduceEq, Int.reduceLT, Int.reduceLE, g6, ho3, hd3, htk, hml]
    refine ⟨by decide, ⟨Nat.le_refl _, fun y hy => by rw [hy]; exact ⟨rfl, rfl⟩, by omega, by omega⟩, fun ob hz hf2 => ?_⟩
    obtain ⟨hkeep, hnx⟩ := next_row (x := .v (.string s)) hrg3.rr hz hf2
    obtain ⟨hle, hr0, hg⟩ := hnx b6 _ (.arr 6 [.agg [y0, y1, y2, y3, .own ob 1 (i + 1), y5]]) (sget_self ..)
    rw [sset_self] at hle hr0 hg
    have hA6 := hkeep b6 _ (sget_self ..)
    generalize hAA : cellsOf ob 1 (List.map sD li ++ [D.v (Value.string s)]) ++ (r, X) :: (b6, AObj.arr 6 [D.agg [y0, y1, y2, y3, D.own o 1 i, y5]]) :: ρ = A at *
    have hml2 : (List.map sD li ++ [D.v (Value.string s)]).length = i + 1 := by simp [hli]
    simp only [go_sem, ↓reduceIte, reduceCtorEq, Nat.reduceEqDiff, Nat.reduceBEq, Int.reduceBEq, Int.reduceBNe, Nat.reduceLT, Nat.reduceLeDiff, Nat.reduceAdd, Nat.reduceSub, Nat.reduceMul, Int.reduceToNat, Int.reduceEq, Int.reduceLT, Int.reduceLE, hA6, hml2]
    refine hK _ _ (Goes.le (ELe.refl _) hle ?_); clear hK K
    have hrg4 : RGF r B (bs', false) ob 1 ((li ++ [s]).map sD) ((b6, .arr 6 [.agg [y0, y1, y2, y3, .own ob 1 (i + 1), y5]]) :: ρ) ((r, X) :: (cellsOf ob 1 ((li ++ [s]).map sD) ++ (b6, .arr 6 [.agg [y0, y1, y2, y3, .own ob 1 (i + 1), y5]]) :: ρ)) := by
      rw [List.map_append]
      exact ⟨hX _ hr0, hg⟩
    rw [List.map_append] at hrg4
    repeat' (first | refine Goes.seq ?_ | refine Goes.skip ?_ | refine Goes.inBlock ?_ | refine Goes.block ?_ | refine Goes.exit rfl ?_ | (refine Goes.region [4, 5, 6, 7, 11, 13] fun K hK => ?_; simp (maxSteps := 4000000) only [go_sem, ↓reduceIte, reduceCtorEq, Nat.reduceEqDiff, Nat.reduceBEq, Int.reduceBEq, Int.reduceBNe, Nat.reduceLT, Nat.reduceLeDiff, Nat.reduceAdd, Nat.reduceSub, Nat.reduceMul, Int.reduceToNat, Int.reduceEq, Int.reduceLT, Int.reduceLE]; refine hK _ _ ?_; clear hK K))
    refine Goes.rebase [4, 5, 6, 7, 11, 13] ?_
    simp only [go_sem, ↓reduceIte, reduceCtorEq, Nat.reduceEqDiff, Nat.reduceBEq, Int.reduceBEq, Int.reduceBNe, Nat.reduceLT, Nat.reduceLeDiff, Nat.reduceAdd, Nat.reduceSub, Nat.reduceMul, Int.reduceToNat, Int.reduceEq, Int.reduceLT, Int.reduceLE]
    rw [wrap_succ i (by omega)]
    refine ih (i + 1) _ _ ⟨by omega, ob, li ++ [s], bs', by simp [hli], by have := textR_ok hx2; omega, many_step hlt hm hx2, rfl, ?_⟩ (by omega)
    rw [List.map_append]; exact hrg4
  · have hge : ¬ i < N := by simpa using hc
    have : i = N := by omega
    subst this
    rw [Nat.sub_self, manyR] at hm
    simp only [Res.bind, List.append_nil] at hm
    rw [hm] at hk'
    repeat' (first | refine Goes.seq ?_ | refine Goes.skip ?_ | refine Goes.inBlock ?_ | refine Goes.block ?_ | refine Goes.exit rfl ?_ | (refine Goes.region [4, 5, 6, 7] fun K hK => ?_; simp (maxSteps := 4000000) only [go_sem, ↓reduceIte, reduceCtorEq, Nat.reduceEqDiff, Nat.reduceBEq, Int.reduceBEq, Int.reduceBNe, Nat.reduceLT, Nat.reduceLeDiff, Nat.reduceAdd, Nat.reduceSub, Nat.reduceMul, Int.reduceToNat, Int.reduceEq, Int.reduceLT, Int.reduceLE]; refine hK _ _ ?_; clear hK K))
    refine Goes.rebase [4, 5, 6, 7] ?_
    simp only [go_sem, ↓reduceIte, reduceCtorEq, Nat.reduceEqDiff, Nat.reduceBEq, Int.reduceBEq, Int.reduceBNe, Nat.reduceLT, Nat.reduceLeDiff, Nat.reduceAdd, Nat.reduceSub, Nat.reduceMul, Int.reduceToNat, Int.reduceEq, Int.reduceLT, Int.reduceLE]
    cases o with
    | none =>
      have hli0 : li = [] := by simpa using hrg.gr.zero rfl
      subst hli0
      have hrt := hrg.rt
      simp only [List.length_nil] at hli
      subst hli
      exact hk' [] bsi rfl (.own none 1 0) _ _ ⟨DLe.own_slc _ _, rfl, rfl, rfl, fun _ _ _ => rfl⟩ ⟨rfl, rfl, rfl, rfl, hrt⟩
    | some b =>
      have hbr : b ≠ r := fun e => hrg.or (by rw [e])
      have hb0 := hrg.gr.fresh b rfl
      have hbb6 : b ≠ b6 := fun e => by rw [e, sget_self] at hb0; cases hb0
      rw [sget_cons, if_neg hbb6] at hb0
      obtain ⟨a, h1, h2, h3, rfl⟩ := hrg.rt.ex
      have hrr := hrg.rr
      have hr6 : r ≠ b6 := fun e => by rw [e, sget_self] at hrr; cases hrr
      have hgb : sget b (frst r B a false ++ (cellsOf (some b) 1 (li.map sD) ++ (b6, .arr 6 [.agg [y0, y1, y2, y3, .own (some b) 1 i, y5]]) :: ρ)) = some (.arr 1 (li.map sD)) := by
        show sget b ((r, _) :: (b, _) :: _) = _
        rw [sget_cons, if_neg hbr, sget_self]
      refine Goes.pub_at b (env' := [(4, .ptr r 3 0 0), (5, dout), (6, .ptr b6 6 0 0), (7, .v (.string hh))]) (σ' := frst r B a false ++ (b6, .arr 6 [.agg [y0, y1, y2, y3, .slc (li.map sD), y5]]) :: ρ) hgb (fun k => ?_) (fun c x hcx => ?_) ?_
      · simp only [eget]
        repeat' split
        all_goals first | exact .inr rfl | exact .inl rfl | exact .inr (hd b hb0 _ _).symm | contradiction
      · have hcx0 : sget c ((r, .arr 3 [.agg [.slc (B.map bD), .v (.int .i64 a), .v (.bool false)]]) :: (b6, .arr 6 [.agg [y0, y1, y2, y3, .slc (li.map sD), y5]]) :: ρ) = some x := hcx
        rw [sget_cons] at hcx0
        split at hcx0
        · rename_i e
          subst e
          cases hcx0
          exact ⟨_, fun e => hbr e.symm, sget_self .., rfl⟩
        · rename_i q1
          rw [sget_cons] at hcx0
          split at hcx0
          · rename_i e
            subst e
            cases hcx0
            refine ⟨.arr 6 [.agg [y0, y1, y2, y3, .own (some b) 1 i, y5]], fun e => hbb6 e.symm, ?_, ?_⟩
            · show sget c ((r, _) :: (b, _) :: (c, _) :: ρ) = _
              rw [sget_cons, if_neg q1, sget_cons, if_neg (fun e => hbb6 e.symm), sget_self]
            · have p0 := hy y0 (by simp); have p1 := hy y1 (by simp); have p2 := hy y2 (by simp); have p3 := hy y3 (by simp); have p5 := hy y5 (by simp)
              simp only [AObj.pub, List.map_cons, List.map_nil, D.pub, pubs, p0, p1, p2, p3, p5, true_and]
              rw [if_pos (by simp [hli]), List.take_of_length_le (by simp [hli])]
          · rename_i q2
            have hcb : c ≠ b := fun e => by rw [e, hb0] at hcx0; cases hcx0
            refine ⟨x, hcb, ?_, (hρ c x hcx0 _ _ _).symm⟩
            show sget c ((r, _) :: (b, _) :: (b6, _) :: ρ) = _
            rw [sget_cons, if_neg q1, sget_cons, if_neg hcb, sget_cons, if_neg q2, hcx0]
      · refine hk' li bsi rfl (.slc (li.map sD)) _ _ (FD.slc _) ⟨rfl, rfl, rfl, rfl, ⟨⟨a, h1, h2, h3, rfl⟩, ?_⟩⟩
        rw [sget_cons, if_neg hr6] at hrr ⊢
        exact hrr
end
end Go.Ab.S21

/- Layer 21: the document's Read: an act's tails. -/
namespace Go.Ab.S21
open Go Go.Proofs

section
variable {C : Ctx Try.prog ⟨139, []⟩} {r b6 : Nat} {B : List UInt8} {hh : ByteArray} {dout : D} {ρ : Store} {env : Env} {σ : Store}

set_option maxHeartbeats 800000 in
theorem f_tails (hB : B.length < 2 ^ 38) {f : Bool} (hls : hh.size < 3) (hf : hasB hh 116 = f) {bs : List UInt8} {y0 y1 y2 y3 y4 : D} (h : Fx r b6 B hh dout ρ (bs, false) [y0, y1, y2, y3, y4, .v (.slice none 0 0)] env σ)
    (hρ : ∀ c o, sget c ρ = some o → ∀ b sz xs, o.pub b sz xs = o) (hd : ∀ b, sget b ρ = none → ∀ sz xs, D.pub b sz xs dout = dout) (hb6 : sget b6 ρ = none)
    (hy : ∀ y ∈ [y0, y1, y2, y3, y4], ∀ b sz xs, D.pub b sz xs y = y) (k' : List Item)
    (hret : ∀ c, optR f (listR numR) [] bs = .err c → ∀ k env σ, eget 2 env = .v (.slice none 0 0) → eget 3 env = .v (.int .i64 c) → Goes C (.code .ret :: k) env σ)
    (hk' : ∀ ns bs', optR f (listR numR) [] bs = .ok ns bs' → ∀ d env σ, FD d (.slc (ns.map iD)) → Fx r b6 B hh dout ρ (bs', false) [y0, y1, y2, y3, y4, d] env σ → Goes C k' env σ) :
    Goes C (.code (bodyAt Try.f14 [1, 1, 1, 0, 0, 0, 1, 0, 1, 1, 1, 1, 1, 1, 1, 1, 0]) :: k') env σ := by
  have hlB := h.rf.len
  obtain ⟨e4, e5, e6, e7, rf⟩ := h
  refine Goes.seq ?_
  refine Goes.region [4, 5, 6, 7] fun K hK => ?_; simp (maxSteps := 4000000) only [go_sem, ↓reduceIte, reduceCtorEq, Nat.reduceEqDiff, Nat.reduceBEq, Int.reduceBEq, Int.reduceBNe, Nat.reduceLT, Nat.reduceLeDiff, Nat.reduceAdd, Nat.reduceSub, Nat.reduceMul, Int.reduceToNat, Int.reduceEq, Int.reduceLT, Int.reduceLE, e4, e5, e6, e7]
  refine has_v hls ?_
  simp only [go_sem, ↓reduceIte, reduceCtorEq, Nat.reduceEqDiff, Nat.reduceBEq, Int.reduceBEq, Int.reduceBNe, Nat.reduceLT, Nat.reduceLeDiff, Nat.reduceAdd, Nat.reduceSub, Nat.reduceMul, Int.reduceToNat, Int.reduceEq, Int.reduceLT, Int.reduceLE, e4, e5, e6, e7, hf]
  refine hK _ _ (Goes.cond rfl (fun hc => ?_) (fun hc => ?_)); all_goals clear hK K
  rotate_left
  · have hc : f = false := hc
    exact Goes.skip (hk' _ _ (if_neg (by rw [hc]; simp)) _ _ _ FD.nil ⟨rfl, rfl, rfl, rfl, rf⟩)
  have hc : f = true := hc
  have ho : optR f (listR numR) [] bs = listR numR bs := if_pos hc
  rw [ho] at hret hk'
  unfold listR at hret hk'
  refine Goes.seq ?_
  refine Goes.region [4, 5, 6, 7] fun K hK => ?_; simp (maxSteps := 4000000) only [go_sem, ↓reduceIte, reduceCtorEq, Nat.reduceEqDiff, Nat.reduceBEq, Int.reduceBEq, Int.reduceBNe, Nat.reduceLT, Nat.reduceLeDiff, Nat.reduceAdd, Nat.reduceSub, Nat.reduceMul, Int.reduceToNat, Int.reduceEq, Int.reduceLT, Int.reduceLE, e4, e5, e6, e7]
  refine ⟨_, Try.call30, (rf.num hB).mono ?_⟩
  intro e σ1 hR
  cases hx : numR bs with
  | err c =>
    rw [hx] at hR
    obtain rfl := hR
    simp only [go_sem, ↓reduceIte, reduceCtorEq, Nat.reduceEqDiff, Nat.reduceBEq, Int.reduceBEq, Int.reduceBNe, Nat.reduceLT, Nat.reduceLeDiff, Nat.reduceAdd, Nat.reduceSub, Nat.reduceMul, Int.reduceToNat, Int.reduceEq, Int.reduceLT, Int.reduceLE]
    refine hK _ _ ?_; clear hK K
    have hc0 : (c != 0) = true := by rcases numR_errs hx with h | h <;> rw [h] <;> rfl
    refine Goes.seq ?_
    refine Goes.seq ?_
    refine Goes.region [16] fun K hK => ?_; simp (maxSteps := 4000000) only [go_sem, ↓reduceIte, reduceCtorEq, Nat.reduceEqDiff, Nat.reduceBEq, Int.reduceBEq, Int.reduceBNe, Nat.reduceLT, Nat.reduceLeDiff, Nat.reduceAdd, Nat.reduceSub, Nat.reduceMul, Int.reduceToNat, Int.reduceEq, Int.reduceLT, Int.reduceLE, hc0]
    refine hK _ _ (Goes.condT rfl ?_); clear hK K
    refine Goes.seq ?_
    refine Goes.region [16] fun K hK => ?_; simp (maxSteps := 4000000) only [go_sem, ↓reduceIte, reduceCtorEq, Nat.reduceEqDiff, Nat.reduceBEq, Int.reduceBEq, Int.reduceBNe, Nat.reduceLT, Nat.reduceLeDiff, Nat.reduceAdd, Nat.reduceSub, Nat.reduceMul, Int.reduceToNat, Int.reduceEq, Int.reduceLT, Int.reduceLE]
    refine hK _ _ ?_; clear hK K
    exact hret c (by rw [hx]; rfl) _ _ _ rfl rfl
  | ok n bs1 =>
  rw [hx] at hR hret hk'
  obtain ⟨rfl, rf1⟩ := hR
  obtain ⟨hn0, hn1, hl1⟩ := numR_ok hx
  simp only [Res.bind] at hret hk'
  obtain ⟨N, rfl⟩ : ∃ N : Nat, n = (N : Int) := ⟨n.toNat, by omega⟩
  simp only [Int.toNat_natCast] at hret hk'
  have g6 := rf1.keep (sget_self ..)
  simp only [go_sem, ↓reduceIte, reduceCtorEq, Nat.reduceEqDiff, Nat.reduceBEq, Int.reduceBEq, Int.reduceBNe, Nat.reduceLT, Nat.reduceLeDiff, Nat.reduceAdd, Nat.reduceSub, Nat.reduceMul, Int.reduceToNat, Int.reduceEq, Int.reduceLT, Int.reduceLE]
  refine hK _ _ ?_; clear hK K
  refine Goes.seq ?_
  refine Goes.seq ?_
  refine Goes.region [4, 5, 6, 7, 15, 16] fun K hK => ?_; simp (maxSteps := 4000000) only [go_sem, ↓reduceIte, reduceCtorEq, Nat.reduceEqDiff, Nat.reduceBEq, Int.reduceBEq, Int.reduceBNe, Nat.reduceLT, Nat.reduceLeDiff, Nat.reduceAdd, Nat.reduceSub, Nat.reduceMul, Int.reduceToNat, Int.reduceEq, Int.reduceLT, Int.reduceLE, e4, e5, e6, e7]
  refine hK _ _ (Goes.condF rfl ?_); clear hK K
  refine Goes.skip ?_
  refine Goes.row_at (b := b6) (ys := [.agg [y0, y1, y2, y3, y4, .own none 1 0]]) g6 (fun w S vs h => ?_) (fun y hy => by simp at hy; rw [hy]; rfl) ?_
  · obtain ⟨a0, r0, rfl, q0, h⟩ := h.cons_inv
    obtain ⟨a1, r1, rfl, q1, h⟩ := h.cons_inv
    obtain ⟨a2, r2, rfl, q2, h⟩ := h.cons_inv
    obtain ⟨a3, r3, rfl, q3, h⟩ := h.cons_inv
    obtain ⟨a4, r4, rfl, q4, h⟩ := h.cons_inv
    obtain ⟨a5, r5, rfl, q5, h⟩ := h.cons_inv
    exact .cons q0 (.cons q1 (.cons q2 (.cons q3 (.cons q4 (.cons (DLe.nil_own 1 _ _ _ q5) h)))))
  have hrg : RGF r B (bs1, false) none 1 [] ((b6, .arr 6 [.agg [y0, y1, y2, y3, y4, .own none 1 0]]) :: ρ) (sset b6 (.arr 6 [.agg [y0, y1, y2, y3, y4, .own none 1 0]]) σ1) := ⟨rf1.set, GrD.nil _ _⟩
  generalize sset b6 (.arr 6 [.agg [y0, y1, y2, y3, y4, .own none 1 0]]) σ1 = σ2 at hrg ⊢
  refine Goes.seq ?_
  refine Goes.region [4, 5, 6, 7, 15] fun K hK => ?_; simp (maxSteps := 4000000) only [go_sem, ↓reduceIte, reduceCtorEq, Nat.reduceEqDiff, Nat.reduceBEq, Int.reduceBEq, Int.reduceBNe, Nat.reduceLT, Nat.reduceLeDiff, Nat.reduceAdd, Nat.reduceSub, Nat.reduceMul, Int.reduceToNat, Int.reduceEq, Int.reduceLT, Int.reduceLE]
  refine hK _ _ ?_; clear hK K
  refine Goes.rebase [4, 5, 6, 7, 15, 17] ?_
  simp only [go_sem, ↓reduceIte, reduceCtorEq, Nat.reduceEqDiff, Nat.reduceBEq, Int.reduceBEq, Int.reduceBNe, Nat.reduceLT, Nat.reduceLeDiff, Nat.reduceAdd, Nat.reduceSub, Nat.reduceMul, Int.reduceToNat, Int.reduceEq, Int.reduceLT, Int.reduceLE]
  refine Goes.block ?_
  refine Goes.while (fun (i : Nat) env' σ' => i ≤ N ∧ ∃ o li bsi, li.length = i ∧ bsi.length ≤ bs1.length ∧ manyR numR N bs1 = (manyR numR (N - i) bsi).bind (fun l b => .ok (li ++ l) b) ∧
    env' = [(4, .ptr r 3 0 0), (5, dout), (6, .ptr b6 6 0 0), (7, .v (.string hh)), (15, .v (.int .i64 (N : Int))), (17, .v (.int .i64 (i : Int)))] ∧ RGF r B (bsi, false) o 1 (li.map iD) ((b6, .arr 6 [.agg [y0, y1, y2, y3, y4, .own o 1 i]]) :: ρ) σ') (fun i => N - i) 0
    ⟨by omega, none, [], bs1, rfl, Nat.le_refl _, by cases manyR numR N bs1 <;> rfl, rfl, hrg⟩ ?_
  clear hrg g6 rf1 rf
  rintro i env' σ' ⟨hi, o, li, bsi, hli, hbl, hm, rfl, hrg⟩ ih
  refine Goes.seq ?_
  refine Goes.seq ?_
  refine Goes.region [4, 5, 6, 7, 15, 17] fun K hK => ?_; simp (maxSteps := 4000000) only [go_sem, ↓reduceIte, reduceCtorEq, Nat.reduceEqDiff, Nat.reduceBEq, Int.reduceBEq, Int.reduceBNe, Nat.reduceLT, Nat.reduceLeDiff, Nat.reduceAdd, Nat.reduceSub, Nat.reduceMul, Int.reduceToNat, Int.reduceEq, Int.reduceLT, Int.reduceLE]
  refine hK _ _ ?_; clear hK K
  refine Goes.cond rfl (fun hc => ?_) (fun hc => ?_)
  · have hlt : i < N := by simpa using hc
    refine Goes.skip ?_
    refine Goes.seq ?_
    refine Goes.block ?_
    refine Goes.seq ?_
    refine Goes.region [4, 5, 6, 7, 15, 17] fun K hK => ?_; simp (maxSteps := 4000000) only [go_sem, ↓reduceIte, reduceCtorEq, Nat.reduceEqDiff, Nat.reduceBEq, Int.reduceBEq, Int.reduceBNe, Nat.reduceLT, Nat.reduceLeDiff, Nat.reduceAdd, Nat.reduceSub, Nat.reduceMul, Int.reduceToNat, Int.reduceEq, Int.reduceLT, Int.reduceLE]
    refine ⟨_, Try.call30, (hrg.rt.num hB).mono ?_⟩
    intro e σ3 hR
    cases hx2 : numR bsi with
    | err c =>
      rw [hx2] at hR
      obtain rfl := hR
      simp only [go_sem, ↓reduceIte, reduceCtorEq, Nat.reduceEqDiff, Nat.reduceBEq, Int.reduceBEq, Int.reduceBNe, Nat.reduceLT, Nat.reduceLeDiff, Nat.reduceAdd, Nat.reduceSub, Nat.reduceMul, Int.reduceToNat, Int.reduceEq, Int.reduceLT, Int.reduceLE]
      refine hK _ _ ?_; clear hK K
      have hc0 : (c != 0) = true := by rcases numR_errs hx2 with h | h <;> rw [h] <;> rfl
      refine Goes.seq ?_
      refine Goes.seq ?_
      refine Goes.region [19] fun K hK => ?_; simp (maxSteps := 4000000) only [go_sem, ↓reduceIte, reduceCtorEq, Nat.reduceEqDiff, Nat.reduceBEq, Int.reduceBEq, Int.reduceBNe, Nat.reduceLT, Nat.reduceLeDiff, Nat.reduceAdd, Nat.reduceSub, Nat.reduceMul, Int.reduceToNat, Int.reduceEq, Int.reduceLT, Int.reduceLE, hc0]
      refine hK _ _ (Goes.condT rfl ?_); clear hK K
      refine Goes.seq ?_
      refine Goes.region [19] fun K hK => ?_; simp (maxSteps := 4000000) only [go_sem, ↓reduceIte, reduceCtorEq, Nat.reduceEqDiff, Nat.reduceBEq, Int.reduceBEq, Int.reduceBNe, Nat.reduceLT, Nat.reduceLeDiff, Nat.reduceAdd, Nat.reduceSub, Nat.reduceMul, Int.reduceToNat, Int.reduceEq, Int.reduceLT, Int.reduceLE]
      refine hK _ _ ?_; clear hK K
      exact hret c (many_err hlt hm hx2) _ _ _ rfl rfl
    | ok s bs' =>
    rw [hx2] at hR
    obtain ⟨rfl, rf3⟩ := hR
    simp only [go_sem, ↓reduceIte, reduceCtorEq, Nat.reduceEqDiff, Nat.reduceBEq, Int.reduceBEq, Int.reduceBNe, Nat.reduceLT, Nat.reduceLeDiff, Nat.reduceAdd, Nat.reduceSub, Nat.reduceMul, Int.reduceToNat, Int.reduceEq, Int.reduceLT, Int.reduceLE]
    refine hK _ _ ?_; clear hK K
    refine Goes.seq ?_
    refine Goes.seq ?_
    refine Goes.region [4, 5, 6, 7, 15, 17, 18, 19] fun K hK => ?_; simp (maxSteps := 4000000) only [go_sem, ↓reduceIte, reduceCtorEq, Nat.reduceEqDiff, Nat.reduceBEq, Int.reduceBEq, Int.reduceBNe, Nat.reduceLT, Nat.reduceLeDiff, Nat.reduceAdd, Nat.reduceSub, Nat.reduceMul, Int.reduceToNat, Int.reduceEq, Int.reduceLT, Int.reduceLE]
    refine hK _ _ (Goes.condF rfl ?_); clear hK K
    have hrg3 : RGF r B (bs', false) o 1 (li.map iD) _ σ3 := ⟨rf3, hrg.gr⟩
    have g6 := hrg3.keep (b := b6) (sget_self ..)
    have ho3 := hrg3.oget
    obtain ⟨X, hd3, hX⟩ := hrg3.sdel
    have hml : (li.map iD).length = i := by simp [hli]
    have htk : List.take i (li.map iD) = li.map iD := List.take_of_length_le (by omega)
    refine Goes.skip ?_
    refine Goes.regionM [4, 5, 6, 7, 15, 17, 18] [131] fun K hK => ?_; simp (maxSteps := 4000000) only [go_sem, ↓reduceIte, reduceCtorEq, Nat.reduceEqDiff, Nat.reduceBEq, Int.reduceBEq, Int.reduceBNe, Nat.reduceLT, Nat.reduceLeDiff, Nat.reduceAdd, Nat.reduceSub, Nat.reduceMul, Int.reduceToNat, Int.reduceEq, Int.reduceLT, Int.reduceLE, g6, ho3, hd3, htk, hml]
    refine ⟨by decide, ⟨Nat.le_refl _, fun y hy => by rw [hy]; exact ⟨rfl, rfl⟩, by omega, by omega⟩, fun ob hz hf2 => ?_⟩
    obtain ⟨hkeep, hnx⟩ := next_row (x := .v (.int .i64 s)) hrg3.rr hz hf2
    obtain ⟨hle, hr0, hg⟩ := hnx b6 _ (.arr 6 [.agg [y0, y1, y2, y3, y4, .own ob 1 (i + 1)]]) (sget_self ..)
    rw [sset_self] at hle hr0 hg
    have hA6 := hkeep b6 _ (sget_self ..)
    generalize hAA : cellsOf ob 1 (List.map iD li ++ [D.v (Value.int IntKind.i64 s)]) ++ (r, X) :: (b6, AObj.arr 6 [D.agg [y0, y1, y2, y3, y4, D.own o 1 i]]) :: ρ = A at *
    have hml2 : (List.map iD li ++ [D.v (Value.int IntKind.i64 s)]).length = i + 1 := by simp [hli]
    simp only [go_sem, ↓reduceIte, reduceCtorEq, Nat.reduceEqDiff, Nat.reduceBEq, Int.reduceBEq, Int.reduceBNe, Nat.reduceLT, Nat.reduceLeDiff, Nat.reduceAdd, Nat.reduceSub, Nat.reduceMul, Int.reduceToNat, Int.reduceEq, Int.reduceLT, Int.reduceLE, hA6, hml2]
    refine hK _ _ (Goes.le (ELe.refl _) hle ?_); clear hK K
    have hrg4 : RGF r B (bs', false) ob 1 ((li ++ [s]).map iD) ((b6, .arr 6 [.agg [y0, y1, y2, y3, y4, .own ob 1 (i + 1)]]) :: ρ) ((r, X) :: (cellsOf ob 1 ((li ++ [s]).map iD) ++ (b6, .arr 6 [.agg [y0, y1, y2, y3, y4, .own ob 1 (i + 1)]]) :: ρ)) := by
      rw [List.map_append]
      exact ⟨hX _ hr0, hg⟩
    rw [List.map_append] at hrg4
    repeat' (first | refine Goes.seq ?_ | refine Goes.skip ?_ | refine Goes.inBlock ?_ | refine Goes.block ?_ | refine Goes.exit rfl ?_ | (refine Goes.region [4, 5, 6, 7, 15, 17] fun K hK => ?_; simp (maxSteps := 4000000) only [go_sem, ↓reduceIte, reduceCtorEq, Nat.reduceEqDiff, Nat.reduceBEq, Int.reduceBEq, Int.reduceBNe, Nat.reduceLT, Nat.reduceLeDiff, Nat.reduceAdd, Nat.reduceSub, Nat.reduceMul, Int.reduceToNat, Int.reduceEq, Int.reduceLT, Int.reduceLE]; refine hK _ _ ?_; clear hK K))
    refine Goes.rebase [4, 5, 6, 7, 15, 17] ?_
    simp only [go_sem, ↓reduceIte, reduceCtorEq, Nat.reduceEqDiff, Nat.reduceBEq, Int.reduceBEq, Int.reduceBNe, Nat.reduceLT, Nat.reduceLeDiff, Nat.reduceAdd, Nat.reduceSub, Nat.reduceMul, Int.reduceToNat, Int.reduceEq, Int.reduceLT, Int.reduceLE]
    rw [wrap_succ i (by omega)]
    refine ih (i + 1) _ _ ⟨by omega, ob, li ++ [s], bs', by simp [hli], by have := (numR_ok hx2).2.2; omega, many_step hlt hm hx2, rfl, ?_⟩ (by omega)
    rw [List.map_append]; exact hrg4
  · have hge : ¬ i < N := by simpa using hc
    have : i = N := by omega
    subst this
    rw [Nat.sub_self, manyR] at hm
    simp only [Res.bind, List.append_nil] at hm
    rw [hm] at hk'
    repeat' (first | refine Goes.seq ?_ | refine Goes.skip ?_ | refine Goes.inBlock ?_ | refine Goes.block ?_ | refine Goes.exit rfl ?_ | (refine Goes.region [4, 5, 6, 7] fun K hK => ?_; simp (maxSteps := 4000000) only [go_sem, ↓reduceIte, reduceCtorEq, Nat.reduceEqDiff, Nat.reduceBEq, Int.reduceBEq, Int.reduceBNe, Nat.reduceLT, Nat.reduceLeDiff, Nat.reduceAdd, Nat.reduceSub, Nat.reduceMul, Int.reduceToNat, Int.reduceEq, Int.reduceLT, Int.reduceLE]; refine hK _ _ ?_; clear hK K))
    refine Goes.rebase [4, 5, 6, 7] ?_
    simp only [go_sem, ↓reduceIte, reduceCtorEq, Nat.reduceEqDiff, Nat.reduceBEq, Int.reduceBEq, Int.reduceBNe, Nat.reduceLT, Nat.reduceLeDiff, Nat.reduceAdd, Nat.reduceSub, Nat.reduceMul, Int.reduceToNat, Int.reduceEq, Int.reduceLT, Int.reduceLE]
    cases o with
    | none =>
      have hli0 : li = [] := by simpa using hrg.gr.zero rfl
      subst hli0
      have hrt := hrg.rt
      simp only [List.length_nil] at hli
      subst hli
      exact hk' [] bsi rfl (.own none 1 0) _ _ ⟨DLe.own_slc _ _, rfl, rfl, rfl, fun _ _ _ => rfl⟩ ⟨rfl, rfl, rfl, rfl, hrt⟩
    | some b =>
      have hbr : b ≠ r := fun e => hrg.or (by rw [e])
      have hb0 := hrg.gr.fresh b rfl
      have hbb6 : b ≠ b6 := fun e => by rw [e, sget_self] at hb0; cases hb0
      rw [sget_cons, if_neg hbb6] at hb0
      obtain ⟨a, h1, h2, h3, rfl⟩ := hrg.rt.ex
      have hrr := hrg.rr
      have hr6 : r ≠ b6 := fun e => by rw [e, sget_self] at hrr; cases hrr
      have hgb : sget b (frst r B a false ++ (cellsOf (some b) 1 (li.map iD) ++ (b6, .arr 6 [.agg [y0, y1, y2, y3, y4, .own (some b) 1 i]]) :: ρ)) = some (.arr 1 (li.map iD)) := by
        show sget b ((r, _) :: (b, _) :: _) = _
        rw [sget_cons, if_neg hbr, sget_self]
      refine Goes.pub_at b (env' := [(4, .ptr r 3 0 0), (5, dout), (6, .ptr b6 6 0 0), (7, .v (.string hh))]) (σ' := frst r B a false ++ (b6, .arr 6 [.agg [y0, y1, y2, y3, y4, .slc (li.map iD)]]) :: ρ) hgb (fun k => ?_) (fun c x hcx => ?_) ?_
      · simp only [eget]
        repeat' split
        all_goals first | exact .inr rfl | exact .inl rfl | exact .inr (hd b hb0 _ _).symm | contradiction
      · have hcx0 : sget c ((r, .arr 3 [.agg [.slc (B.map bD), .v (.int .i64 a), .v (.bool false)]]) :: (b6, .arr 6 [.agg [y0, y1, y2, y3, y4, .slc (li.map iD)]]) :: ρ) = some x := hcx
        rw [sget_cons] at hcx0
        split at hcx0
        · rename_i e
          subst e
          cases hcx0
          exact ⟨_, fun e => hbr e.symm, sget_self .., rfl⟩
        · rename_i q1
          rw [sget_cons] at hcx0
          split at hcx0
          · rename_i e
            subst e
            cases hcx0
            refine ⟨.arr 6 [.agg [y0, y1, y2, y3, y4, .own (some b) 1 i]], fun e => hbb6 e.symm, ?_, ?_⟩
            · show sget c ((r, _) :: (b, _) :: (c, _) :: ρ) = _
              rw [sget_cons, if_neg q1, sget_cons, if_neg (fun e => hbb6 e.symm), sget_self]
            · have p0 := hy y0 (by simp); have p1 := hy y1 (by simp); have p2 := hy y2 (by simp); have p3 := hy y3 (by simp); have p4 := hy y4 (by simp)
              simp only [AObj.pub, List.map_cons, List.map_nil, D.pub, pubs, p0, p1, p2, p3, p4, true_and]
              rw [if_pos (by simp [hli]), List.take_of_length_le (by simp [hli])]
          · rename_i q2
            have hcb : c ≠ b := fun e => by rw [e, hb0] at hcx0; cases hcx0
            refine ⟨x, hcb, ?_, (hρ c x hcx0 _ _ _).symm⟩
            show sget c ((r, _) :: (b, _) :: (b6, _) :: ρ) = _
            rw [sget_cons, if_neg q1, sget_cons, if_neg hcb, sget_cons, if_neg q2, hcx0]
      · refine hk' li bsi rfl (.slc (li.map iD)) _ _ (FD.slc _) ⟨rfl, rfl, rfl, rfl, ⟨⟨a, h1, h2, h3, rfl⟩, ?_⟩⟩
        rw [sget_cons, if_neg hr6] at hrr ⊢
        exact hrr
end
end Go.Ab.S21

/- Layer 21: the document's Read. -/
namespace Go.Ab.S21
open Go Go.Proofs

theorem read_pub {f : FuncId} {args : List D} {x : Res (List XAct)} (hbase : ACalls Try.prog f args [] (fun e σ' => match x with
      | .err c => e = .ret (.tup [.v (.slice none 0 0), .v (.int .i64 c)]) ∧ σ' = []
      | .ok l _ => ∃ o, e = .ret (.tup [.own o 6 l.length, .v (.int .i64 0)]) ∧ (o = none → l = []) ∧ σ' = cellsOf o 6 (l.map XAct.d))) (σ : Store) :
    ACalls Try.prog f args σ (fun e σ' => e = readE x ∧ σ' = σ) := by
  refine ACalls.pub1 (R := fun e σ' => match x with
      | .err c => e = .ret (.tup [.slc [], .v (.int .i64 c)]) ∧ σ' = []
      | .ok l _ => (e = .ret (.tup [actsD l, .v (.int .i64 0)]) ∧ σ' = []) ∨ ∃ b, e = .ret (.tup [.own (some b) 6 l.length, .v (.int .i64 0)]) ∧ σ' = [(b, .arr 6 (l.map XAct.d))]) ?_ (fun e σ' hR => ?_) σ
  · refine hbase.ret_le fun e σ' hR => ?_
    cases x with
    | err c =>
      obtain ⟨rfl, rfl⟩ := hR
      refine .inr ⟨_, _, rfl, fun w S v h => ?_, rfl, rfl⟩
      cases h with
      | tup h =>
        obtain ⟨a0, r0, rfl, q0, h⟩ := h.cons_inv
        exact .tup (.cons (DLe.nil_slc _ _ _ q0) h)
    | ok l b =>
      obtain ⟨o, rfl, hz, rfl⟩ := hR
      cases o with
      | none =>
        have := hz rfl
        subst this
        refine .inr ⟨_, .tup [actsD [], .v (.int .i64 0)], rfl, fun w S v h => ?_, .inl ⟨rfl, rfl⟩⟩
        cases h with
        | tup h =>
          obtain ⟨a0, r0, rfl, q0, h⟩ := h.cons_inv
          exact .tup (.cons (DLe.own_slc _ _ _ _ _ q0) h)
      | some b => exact .inl (.inr ⟨b, rfl, rfl⟩)
  · cases x with
    | err c => exact .inl hR
    | ok l b =>
      rcases hR with hR | ⟨b, rfl, rfl⟩
      · exact .inl hR
      · refine .inr ⟨_, b, 6, _, rfl, rfl, ?_⟩
        simp only [D.pub, pubs, true_and, List.length_map, Nat.le_refl, if_true]
        rw [List.take_of_length_le (by simp)]
        rfl

theorem d_pub (x : XAct) (b sz : Nat) (xs : List D) : D.pub b sz xs x.d = x.d := by simp [XAct.d, D.pub, pubs]
theorem cells_pub {o : Option Nat} {l : List XAct} {c : Nat} {y : AObj} (h : sget c (cellsOf o 6 (l.map XAct.d)) = some y) (b sz : Nat) (xs : List D) : y.pub b sz xs = y := by
  cases o with
  | none => simp [cellsOf, sget] at h
  | some a =>
    have h : sget c [(a, .arr 6 (l.map XAct.d))] = some y := h
    rw [sget_cons] at h
    split at h
    · cases h
      simp only [AObj.pub, List.map_map]
      rw [show (D.pub b sz xs ∘ XAct.d) = XAct.d from funext fun x => d_pub x b sz xs]
    · cases h

theorem takeS_bad {s : RS} (h : s.2 = true) (n : Nat) : (takeS s n).2.2 = true := by unfold takeS; rw [if_pos (.inl h)]
theorem optS_bad {s : RS} (f : Bool) (h : s.2 = true) : (optS f s).2.2 = true := by
  unfold optS
  split
  · exact takeS_bad (takeS_bad h 2) _
  · exact h
theorem opt_text (f : Bool) (bs : List UInt8) : optR f textR ByteArray.empty bs = if (optS f (bs, false)).2.2 = true then .err 2 else .ok ⟨(optS f (bs, false)).1.toArray⟩ (optS f (bs, false)).2.1 := by
  cases f with
  | true => rfl
  | false => rfl

/-- The document's Read, as its program walks. -/
theorem fread_base (B : List UInt8) (hB : B.length < 2 ^ 30) : ACalls Try.prog 14 [.slc (B.map bD)] [] (fun e σ' => match readR B.length B with
      | .err c => e = .ret (.tup [.v (.slice none 0 0), .v (.int .i64 c)]) ∧ σ' = []
      | .ok l _ => ∃ o, e = .ret (.tup [.own o 6 l.length, .v (.int .i64 0)]) ∧ (o = none → l = []) ∧ σ' = cellsOf o 6 (l.map XAct.d)) := by
  refine ACalls.of_body Try.func14 rfl Try.ntmps14 (by simp) fun C hC => ?_
  have hret : ∀ c, readR B.length B = .err c → ∀ k env σ, eget 2 env = .v (.slice none 0 0) → eget 3 env = .v (.int .i64 c) → Goes C (.code .ret :: k) env σ := fun c hc k env σ e2 e3 => by
    refine Goes.le (σ' := []) (ELe.refl _) (SLe.nil _) ?_
    refine Goes.ret hC Try.func14 (by simp [go_sem]) ?_
    simp only [go_sem, ↓reduceIte, reduceCtorEq, Nat.reduceEqDiff, Nat.reduceBEq, Int.reduceBEq, Int.reduceBNe, Nat.reduceLT, Nat.reduceLeDiff, Nat.reduceAdd, Nat.reduceSub, Nat.reduceMul, Int.reduceToNat, Int.reduceEq, Int.reduceLT, Int.reduceLE, e2, e3]
    rw [hc]
  refine Goes.seq ?_
  refine Goes.region [0] fun K hK => ?_; simp (maxSteps := 4000000) only [go_sem, ↓reduceIte, reduceCtorEq, Nat.reduceEqDiff, Nat.reduceBEq, Int.reduceBEq, Int.reduceBNe, Nat.reduceLT, Nat.reduceLeDiff, Nat.reduceAdd, Nat.reduceSub, Nat.reduceMul, Int.reduceToNat, Int.reduceEq, Int.reduceLT, Int.reduceLE]
  refine hK _ _ ?_; clear hK K
  refine Goes.seq ?_
  refine Goes.region [0] fun K hK => ?_; simp (maxSteps := 4000000) only [go_sem, ↓reduceIte, reduceCtorEq, Nat.reduceEqDiff, Nat.reduceBEq, Int.reduceBEq, Int.reduceBNe, Nat.reduceLT, Nat.reduceLeDiff, Nat.reduceAdd, Nat.reduceSub, Nat.reduceMul, Int.reduceToNat, Int.reduceEq, Int.reduceLT, Int.reduceLE]
  intro r
  refine hK _ _ ?_; clear hK K
  refine Goes.seq ?_
  refine Goes.region [4] fun K hK => ?_; simp (maxSteps := 4000000) only [go_sem, ↓reduceIte, reduceCtorEq, Nat.reduceEqDiff, Nat.reduceBEq, Int.reduceBEq, Int.reduceBNe, Nat.reduceLT, Nat.reduceLeDiff, Nat.reduceAdd, Nat.reduceSub, Nat.reduceMul, Int.reduceToNat, Int.reduceEq, Int.reduceLT, Int.reduceLE]
  refine hK _ _ ?_; clear hK K
  refine Goes.rebase [4, 5] ?_
  simp only [go_sem, ↓reduceIte, reduceCtorEq, Nat.reduceEqDiff, Nat.reduceBEq, Int.reduceBEq, Int.reduceBNe, Nat.reduceLT, Nat.reduceLeDiff, Nat.reduceAdd, Nat.reduceSub, Nat.reduceMul, Int.reduceToNat, Int.reduceEq, Int.reduceLT, Int.reduceLE]
  refine Goes.env_le (env' := [(4, .ptr r 3 0 0), (5, .own none 6 0)]) ?_ (fun k => ?_)
  rotate_left
  · simp only [eget]
    repeat' split
    all_goals first | exact DLe.refl _ | exact DLe.nil_own 6
  refine Goes.seq ?_
  refine Goes.block ?_
  have hrf0 : RGF r B (B, false) none 6 [] [] [(r, .arr 3 [.agg [.slc (B.map bD), .v (.int .i64 0), .v (.bool false)]])] := ⟨⟨⟨0, by omega, fun _ => rfl, (fun h => by cases h), rfl⟩, rfl⟩, GrD.nil _ _⟩
  refine Goes.while (fun (bs : List UInt8) env' σ' => ∃ o li, readR B.length B = (readR bs.length bs).bind (fun l b => .ok (li ++ l) b) ∧ li.length + bs.length ≤ B.length ∧ env' = [(4, .ptr r 3 0 0), (5, .own o 6 li.length)] ∧
    RGF r B (bs, false) o 6 (li.map XAct.d) [] σ') (fun bs => bs.length) B ⟨none, [], by cases readR B.length B <;> rfl, by simp, rfl, hrf0⟩ ?_
  clear hrf0
  rintro bs env' σ ⟨o, li, hm, hlen, rfl, hrg⟩ ih
  refine Goes.seq ?_
  refine Goes.seq ?_
  refine Goes.region [4, 5] fun K hK => ?_; simp (maxSteps := 4000000) only [go_sem, ↓reduceIte, reduceCtorEq, Nat.reduceEqDiff, Nat.reduceBEq, Int.reduceBEq, Int.reduceBNe, Nat.reduceLT, Nat.reduceLeDiff, Nat.reduceAdd, Nat.reduceSub, Nat.reduceMul, Int.reduceToNat, Int.reduceEq, Int.reduceLT, Int.reduceLE]
  refine ⟨_, Try.call27, (hrg.rt.left (by omega)).mono ?_⟩
  rintro e σ1 ⟨rfl, rf1⟩
  simp only [go_sem, ↓reduceIte, reduceCtorEq, Nat.reduceEqDiff, Nat.reduceBEq, Int.reduceBEq, Int.reduceBNe, Nat.reduceLT, Nat.reduceLeDiff, Nat.reduceAdd, Nat.reduceSub, Nat.reduceMul, Int.reduceToNat, Int.reduceEq, Int.reduceLT, Int.reduceLE]
  refine hK _ _ ?_; clear hK K
  refine Goes.cond rfl (fun hc => ?_) (fun hc => ?_)
  rotate_left
  · have : bs = [] := by
      cases bs with
      | nil => rfl
      | cons c t => simp at hc
    subst this
    repeat' (first | refine Goes.seq ?_ | refine Goes.skip ?_ | refine Goes.inBlock ?_ | refine Goes.block ?_ | refine Goes.exit rfl ?_ | (refine Goes.region [5] fun K hK => ?_; simp (maxSteps := 4000000) only [go_sem, ↓reduceIte, reduceCtorEq, Nat.reduceEqDiff, Nat.reduceBEq, Int.reduceBEq, Int.reduceBNe, Nat.reduceLT, Nat.reduceLeDiff, Nat.reduceAdd, Nat.reduceSub, Nat.reduceMul, Int.reduceToNat, Int.reduceEq, Int.reduceLT, Int.reduceLE]; refine hK _ _ ?_; clear hK K))
    obtain ⟨a, _, _, _, rfl⟩ := rf1.ex
    refine Goes.le (σ' := cellsOf o 6 (li.map XAct.d)) (ELe.refl _) ?_ ?_
    · rw [List.append_nil]
      intro c y hc
      have hcr : c ≠ r := fun e => by
        have := rf1.apart
        rw [List.append_nil, ← e, hc] at this; cases this
      show sget c ((r, _) :: cellsOf o 6 (li.map XAct.d)) = _
      rw [sget_cons, if_neg hcr, hc]
    refine Goes.ret hC Try.func14 (by simp [go_sem]) ?_
    simp only [go_sem, ↓reduceIte, reduceCtorEq, Nat.reduceEqDiff, Nat.reduceBEq, Int.reduceBEq, Int.reduceBNe, Nat.reduceLT, Nat.reduceLeDiff, Nat.reduceAdd, Nat.reduceSub, Nat.reduceMul, Int.reduceToNat, Int.reduceEq, Int.reduceLT, Int.reduceLE]
    rw [hm]
    simp only [List.length_nil, readR, Res.bind, List.append_nil]
    exact ⟨o, rfl, fun e => by simpa using hrg.gr.zero e, rfl⟩
  obtain ⟨c, t, rfl⟩ : ∃ c t, bs = c :: t := by
    cases bs with
    | nil => simp at hc
    | cons c t => exact ⟨c, t, rfl⟩
  clear hc
  refine Goes.skip ?_
  refine Goes.block ?_
  have hn1 : numS (c :: t, false) 1 = (c.toNat, (t, false)) := by simp [numS, takeS, val]
  have hct : c.toNat < 256 := c.toNat_lt
  have hw : IntKind.i64.wrap ((c.toNat : Nat) : Int) = (c.toNat : Int) := wrap_in _ (by omega) (by omega)
  refine Goes.seq ?_
  refine Goes.region [4, 5] fun K hK => ?_; simp (maxSteps := 4000000) only [go_sem, ↓reduceIte, reduceCtorEq, Nat.reduceEqDiff, Nat.reduceBEq, Int.reduceBEq, Int.reduceBNe, Nat.reduceLT, Nat.reduceLeDiff, Nat.reduceAdd, Nat.reduceSub, Nat.reduceMul, Int.reduceToNat, Int.reduceEq, Int.reduceLT, Int.reduceLE]
  refine ⟨_, Try.call28, (rf1.number 1 (by omega) (by omega)).mono ?_⟩
  rw [hn1]
  rintro e σ2 ⟨rfl, rf2⟩
  simp only [go_sem, ↓reduceIte, reduceCtorEq, Nat.reduceEqDiff, Nat.reduceBEq, Int.reduceBEq, Int.reduceBNe, Nat.reduceLT, Nat.reduceLeDiff, Nat.reduceAdd, Nat.reduceSub, Nat.reduceMul, Int.reduceToNat, Int.reduceEq, Int.reduceLT, Int.reduceLE, hw]
  intro b6 hb6
  refine hK _ _ ?_; clear hK K
  have hr6 : r ≠ b6 := fun e => by
    obtain ⟨a, _, _, hr⟩ := rf2.row
    rw [← e, hr] at hb6; cases hb6
  have hb6' : sget b6 (cellsOf o 6 (li.map XAct.d) ++ []) = none := by
    obtain ⟨a, _, _, _, rfl⟩ := rf2.ex
    rw [show frst r B a (t, false).2 ++ (cellsOf o 6 (li.map XAct.d) ++ []) = (r, _) :: (cellsOf o 6 (li.map XAct.d) ++ []) from rfl, sget_cons, if_neg hr6.symm] at hb6
    exact hb6
  rw [List.append_nil] at hb6'
  have rf3 : ∃ σ3, SLe σ3 ((b6, .arr 6 [.agg [.v (.int .i64 c.toNat), .v (.int .i64 0), .v (.string ByteArray.empty), .v (.slice none 0 0), .v (.slice none 0 0), .v (.slice none 0 0)]]) :: σ2) ∧
      RF r B (t, false) ((b6, .arr 6 [.agg [.v (.int .i64 c.toNat), .v (.int .i64 0), .v (.string ByteArray.empty), .v (.slice none 0 0), .v (.slice none 0 0), .v (.slice none 0 0)]]) :: cellsOf o 6 (li.map XAct.d)) σ3 := by
    obtain ⟨a, h1, h2, h3, rfl⟩ := rf2.ex
    have hap := rf2.apart
    rw [List.append_nil] at hap hb6 ⊢
    refine ⟨_, ?_, ⟨⟨a, h1, h2, h3, rfl⟩, by rw [sget_cons, if_neg hr6]; exact hap⟩⟩
    refine SLe.append (SLe.cons ?_ (SLe.nil _)) (SLe.cons (sget_self ..) (sle_cons (sle_cons (SLe.refl _) hap) hb6'))
    rw [sget_cons, if_neg hr6]; exact sget_self ..
  obtain ⟨σ3, hle3, rf3⟩ := rf3
  refine Goes.le (ELe.refl _) hle3 ?_
  clear hle3
  have g6 := rf3.keep (sget_self ..)
  refine Goes.seq ?_
  refine Goes.region [4, 5, 6] fun K hK => ?_; simp (maxSteps := 4000000) only [go_sem, ↓reduceIte, reduceCtorEq, Nat.reduceEqDiff, Nat.reduceBEq, Int.reduceBEq, Int.reduceBNe, Nat.reduceLT, Nat.reduceLeDiff, Nat.reduceAdd, Nat.reduceSub, Nat.reduceMul, Int.reduceToNat, Int.reduceEq, Int.reduceLT, Int.reduceLE, g6]
  refine ⟨_, Try.call19, (letters_calls c.toNat _).mono ?_⟩
  rintro e σ4 ⟨rfl, rfl⟩
  simp only [go_sem, ↓reduceIte, reduceCtorEq, Nat.reduceEqDiff, Nat.reduceBEq, Int.reduceBEq, Int.reduceBNe, Nat.reduceLT, Nat.reduceLeDiff, Nat.reduceAdd, Nat.reduceSub, Nat.reduceMul, Int.reduceToNat, Int.reduceEq, Int.reduceLT, Int.reduceLE]
  refine hK _ _ ?_; clear hK K
  obtain ⟨f0, f1, f2, f3, f4, kn, hF, b0, b1, b2, b3, b4, hq, hls, h9, -⟩ := letters_has c.toNat
  generalize lettersD c.toNat = lt at b0 b1 b2 b3 b4 hq hls ⊢
  have hX : actR c.toNat t = if kn = false then .err 4 else
    (optR f0 textR ByteArray.empty t).bind fun nm bs => (optR f1 textR ByteArray.empty bs).bind fun by_ bs => (nR f2 c.toNat bs).bind fun n bs =>
    (optR f3 (listR textR) [] bs).bind fun ns bs => (optR f4 (listR numR) [] bs).bind fun ts bs => .ok ⟨c.toNat, n, nm, by_.data.toList, ns, ts⟩ bs := by
    unfold actR; rw [hF]
  have hret2 : ∀ e, actR c.toNat t = .err e → ∀ k env σ, eget 2 env = .v (.slice none 0 0) → eget 3 env = .v (.int .i64 e) → Goes C (.code .ret :: k) env σ := fun e he => hret e (readR_err hm he)
  have hI : Fx r b6 B lt (.own o 6 li.length) (cellsOf o 6 (li.map XAct.d)) (t, false) [.v (.int .i64 c.toNat), .v (.int .i64 0), .v (.string ByteArray.empty), .v (.slice none 0 0), .v (.slice none 0 0), .v (.slice none 0 0)]
    [(4, .ptr r 3 0 0), (5, .own o 6 li.length), (6, .ptr b6 6 0 0), (7, .v (.string lt))] σ4 := ⟨rfl, rfl, rfl, rfl, rf3⟩
  refine Goes.seq ?_
  refine Goes.seq ?_
  refine Goes.region [4, 5, 6, 7] fun K hK => ?_; simp (maxSteps := 4000000) only [go_sem, ↓reduceIte, reduceCtorEq, Nat.reduceEqDiff, Nat.reduceBEq, Int.reduceBEq, Int.reduceBNe, Nat.reduceLT, Nat.reduceLeDiff, Nat.reduceAdd, Nat.reduceSub, Nat.reduceMul, Int.reduceToNat, Int.reduceEq, Int.reduceLT, Int.reduceLE, hq]
  refine hK _ _ (Goes.cond rfl (fun hc => ?_) (fun hc => ?_)); all_goals clear hK K
  · refine Goes.seq ?_
    refine Goes.region [] fun K hK => ?_; simp (maxSteps := 4000000) only [go_sem, ↓reduceIte, reduceCtorEq, Nat.reduceEqDiff, Nat.reduceBEq, Int.reduceBEq, Int.reduceBNe, Nat.reduceLT, Nat.reduceLeDiff, Nat.reduceAdd, Nat.reduceSub, Nat.reduceMul, Int.reduceToNat, Int.reduceEq, Int.reduceLT, Int.reduceLE]
    refine hK _ _ ?_; clear hK K
    exact hret2 4 (by rw [hX, if_pos (by simpa using hc)]) _ _ _ rfl rfl
  refine Goes.skip ?_
  refine Goes.rebase [4, 5, 6, 7] ?_
  simp only [go_sem, ↓reduceIte, reduceCtorEq, Nat.reduceEqDiff, Nat.reduceBEq, Int.reduceBEq, Int.reduceBNe, Nat.reduceLT, Nat.reduceLeDiff, Nat.reduceAdd, Nat.reduceSub, Nat.reduceMul, Int.reduceToNat, Int.reduceEq, Int.reduceLT, Int.reduceLE]
  rw [if_neg (by simpa using hc)] at hX
  generalize hXX : actR c.toNat t = X at hret2 hX
  refine Goes.seq (f_name (by omega) hls b0 hI _ fun env σ hI => ?_)
  refine Goes.seq (f_bytes (by omega) hls b1 hI _ fun d3 env σ hd3 hI => ?_)
  have ht1 := opt_text f0 t
  generalize hs1 : optS f0 (t, false) = s1 at hI ht1 hd3
  obtain ⟨nm, bs1, bad1⟩ := s1
  refine Goes.seq (f_bad hI _ (fun hb => hret2 2 ?_) fun hb env σ hI => ?_)
  · cases bad1 with
    | true => rw [hX, ht1]; rfl
    | false =>
      have ht2 := opt_text f1 bs1
      rw [if_pos hb] at ht2
      rw [hX, ht1]
      simp only [Res.bind, ht2, Bool.false_eq_true, if_false]
  have hb1 : bad1 = false := by
    cases bad1 with
    | false => rfl
    | true => rw [optS_bad f1 rfl] at hb; cases hb
  subst hb1
  have ht2 := opt_text f1 bs1
  rw [if_neg (by rw [hb]; simp)] at ht2
  have l1 := optR_len (fun a b h => textR_ok h) ht1
  have l2 := optR_len (fun a b h => textR_ok h) ht2
  generalize hs2 : optS f1 (bs1, false) = s2 at hI ht2 hd3 hb l2
  obtain ⟨by_, bs2, bad2⟩ := s2
  have hb : bad2 = false := hb
  subst hb
  rw [ht1] at hX
  simp only [Bool.false_eq_true, if_false, Res.bind, ht2] at hX
  refine Goes.seq (f_num (by omega) hls b2 h9 hI _ (fun e he => hret2 e (by rw [hX, he])) fun n bs3 h3 env σ hI => ?_)
  rw [h3] at hX
  simp only [] at hX
  have l3 := nR_len h3
  have hρ : ∀ c y, sget c (cellsOf o 6 (li.map XAct.d)) = some y → ∀ b sz xs, y.pub b sz xs = y := fun c y h b sz xs => cells_pub h b sz xs
  have hdo : ∀ b, sget b (cellsOf o 6 (li.map XAct.d)) = none → ∀ sz xs, D.pub b sz xs (.own o 6 li.length) = .own o 6 li.length := fun b hb sz xs => by
    cases o with
    | none => rfl
    | some a =>
      have hne : a ≠ b := fun e => by subst e; simp [cellsOf, sget] at hb
      simp [D.pub, hne]
  refine Goes.seq (f_names (by omega) hls b3 hI hρ hdo hb6' (fun y hy b sz xs => ?_) _ (fun e he => hret2 e (by rw [hX, he])) fun ns bs4 h4 d4 env σ hd4 hI => ?_)
  · simp only [List.mem_cons, List.not_mem_nil, or_false] at hy
    rcases hy with rfl | rfl | rfl | rfl | rfl
    · rfl
    · rfl
    · rfl
    · exact hd3.pub _ _ _
    · rfl
  rw [h4] at hX
  simp only [] at hX
  have l4 := optR_len (fun a b h => listR_len (fun a b b' h => textR_ok h) h) h4
  refine Goes.seq (f_tails (by omega) hls b4 hI hρ hdo hb6' (fun y hy b sz xs => ?_) _ (fun e he => hret2 e (by rw [hX, he])) fun ts bs5 h5 d5 env σ hd5 hI => ?_)
  · simp only [List.mem_cons, List.not_mem_nil, or_false] at hy
    rcases hy with rfl | rfl | rfl | rfl | rfl
    · rfl
    · rfl
    · rfl
    · exact hd3.pub _ _ _
    · exact hd4.pub _ _ _
  rw [h5] at hX
  simp only [] at hX
  have l5 := optR_len (fun a b h => listR_len (fun a b b' h => (numR_ok h).2.2) h) h5
  subst hX
  have hlt : bs5.length ≤ t.length := actR_len hXX
  generalize hx : (⟨c.toNat, n, ⟨nm.toArray⟩, (⟨by_.toArray⟩ : ByteArray).data.toList, ns, ts⟩ : XAct) = x at hXX
  have hxd : x.d = .agg [.v (.int .i64 c.toNat), .v (.int .i64 n), .v (.string ⟨nm.toArray⟩), .slc (by_.map bD), .slc (ns.map sD), .slc (ts.map iD)] := by rw [← hx]; rfl
  have g6 := hI.rf.keep (sget_self ..)
  obtain ⟨e4, e5, e6, e7, rf⟩ := hI
  refine Goes.row_at (b := b6) (ys := [x.d]) g6 (fun w S vs h => ?_) (fun y hy => by simp at hy; rw [hy]; rfl) ?_
  · rw [hxd]
    obtain ⟨a0, r0, rfl, q0, h⟩ := h.cons_inv
    obtain ⟨a1, r1, rfl, q1, h⟩ := h.cons_inv
    obtain ⟨a2, r2, rfl, q2, h⟩ := h.cons_inv
    obtain ⟨a3, r3, rfl, q3, h⟩ := h.cons_inv
    obtain ⟨a4, r4, rfl, q4, h⟩ := h.cons_inv
    obtain ⟨a5, r5, rfl, q5, h⟩ := h.cons_inv
    exact .cons q0 (.cons q1 (.cons q2 (.cons (hd3.le _ _ _ q3) (.cons (hd4.le _ _ _ q4) (.cons (hd5.le _ _ _ q5) h)))))
  have rfx := rf.set (y := .arr 6 [x.d])
  generalize sset b6 (.arr 6 [x.d]) σ = σ5 at rfx ⊢
  have hrgx : ∃ σ6, SLe σ6 σ5 ∧ RGF r B (bs5, false) o 6 (li.map XAct.d) [(b6, .arr 6 [x.d])] σ6 := by
    obtain ⟨a, h1, h2, h3, rfl⟩ := rfx.ex
    have hap := rfx.apart
    rw [sget_cons, if_neg hr6] at hap
    have hob : o ≠ some b6 := fun e => by rw [e] at hb6'; simp [cellsOf, sget] at hb6'
    refine ⟨_, ?_, ⟨⟨⟨a, h1, h2, h3, rfl⟩, ?_⟩, ⟨fun b hb => ?_, hrg.gr.zero⟩⟩⟩
    · refine SLe.append (SLe.append_left _ _) (SLe.append (sle_cons (sle_cons (SLe.refl _) hb6') ?_) (SLe.cons ?_ (SLe.nil _)))
      · exact hap
      · show sget b6 ((r, _) :: (b6, _) :: _) = _
        rw [sget_cons, if_neg hr6.symm, sget_self]
    · rw [sget_append_none hap, sget_cons, if_neg hr6]; rfl
    · rw [sget_cons, if_neg (fun e => hob (by rw [hb, e]))]; rfl
  obtain ⟨σ6, hle6, hrgx⟩ := hrgx
  refine Goes.le (ELe.refl _) hle6 ?_
  have g66 := hrgx.keep (b := b6) (sget_self ..)
  have ho6 := hrgx.oget
  obtain ⟨X, hd6, hX6⟩ := hrgx.sdel
  have hml : (li.map XAct.d).length = li.length := List.length_map ..
  have htk : List.take li.length (li.map XAct.d) = li.map XAct.d := List.take_of_length_le (by omega)
  have hcl : x.d.cells = [.v (.int .i64 c.toNat), .v (.int .i64 n), .v (.string ⟨nm.toArray⟩), .slc (by_.map bD), .slc (ns.map sD), .slc (ts.map iD)] := by rw [hxd]; rfl
  have hlc : (c :: t).length = t.length + 1 := rfl
  refine Goes.regionM [4, 5, 6] [136] fun K hK => ?_; simp (maxSteps := 4000000) only [go_sem, ↓reduceIte, reduceCtorEq, Nat.reduceEqDiff, Nat.reduceBEq, Int.reduceBEq, Int.reduceBNe, Nat.reduceLT, Nat.reduceLeDiff, Nat.reduceAdd, Nat.reduceSub, Nat.reduceMul, Int.reduceToNat, Int.reduceEq, Int.reduceLT, Int.reduceLE, e4, e5, e6, g66, ho6, hd6, htk, hml, hcl]
  rw [← hxd]
  have hml2 : (List.map XAct.d li ++ [x.d]).length = li.length + 1 := by simp
  rw [hml2]
  refine ⟨by decide, ⟨Nat.le_refl _, fun y hy => by rw [hy]; exact ⟨rfl, rfl⟩, by omega, by omega⟩, fun oc hz hf2 => hK _ _ ?_⟩; clear hK K
  have hnx := (next_row (sz := 6) (x := x.d) hrgx.rr hz hf2).2 b6 _ (.arr 6 [x.d]) (sget_self ..)
  rw [sset_self] at hnx
  obtain ⟨-, hr0, hg⟩ := hnx
  refine Goes.le (σ' := (r, X) :: (cellsOf oc 6 (li.map XAct.d ++ [x.d]) ++ [])) (ELe.refl _) ?_ ?_
  · rw [List.append_nil]
    have hr1 : sget r (cellsOf oc 6 (List.map XAct.d li ++ [x.d])) = none := none_of_sle (SLe.append_left _ _) hr0
    refine SLe.cons ?_ (SLe.append_left _ _)
    rw [sget_append_none hr1, sget_self]
  have hrgn : RGF r B (bs5, false) oc 6 ((li ++ [x]).map XAct.d) [] ((r, X) :: (cellsOf oc 6 ((li ++ [x]).map XAct.d) ++ [])) := by
    rw [List.map_append]
    refine ⟨hX6 _ ?_, ⟨fun b hb => rfl, hg.zero⟩⟩
    rw [List.append_nil]; exact none_of_sle (SLe.append_left _ _) hr0
  repeat' (first | refine Goes.seq ?_ | refine Goes.skip ?_ | refine Goes.inBlock ?_ | refine Goes.block ?_ | refine Goes.exit rfl ?_ | (refine Goes.region [4, 5] fun K hK => ?_; simp (maxSteps := 4000000) only [go_sem, ↓reduceIte, reduceCtorEq, Nat.reduceEqDiff, Nat.reduceBEq, Int.reduceBEq, Int.reduceBNe, Nat.reduceLT, Nat.reduceLeDiff, Nat.reduceAdd, Nat.reduceSub, Nat.reduceMul, Int.reduceToNat, Int.reduceEq, Int.reduceLT, Int.reduceLE]; refine hK _ _ ?_; clear hK K))
  refine Goes.rebase [4, 5] ?_
  simp only [go_sem, ↓reduceIte, reduceCtorEq, Nat.reduceEqDiff, Nat.reduceBEq, Int.reduceBEq, Int.reduceBNe, Nat.reduceLT, Nat.reduceLeDiff, Nat.reduceAdd, Nat.reduceSub, Nat.reduceMul, Int.reduceToNat, Int.reduceEq, Int.reduceLT, Int.reduceLE]
  refine ih bs5 _ _ ⟨oc, li ++ [x], readR_step hm hXX, by simp; omega, by simp, by rw [List.map_append] at hrgn ⊢; rw [List.append_nil] at hrgn; exact hrgn⟩ (by omega)

/-- The document's Read. -/
theorem fread_calls (B : List UInt8) (σ : Store) (hB : B.length < 2 ^ 30) : ACalls Try.prog 14 [.slc (B.map bD)] σ (fun e σ' => e = readE (readR B.length B) ∧ σ' = σ) :=
  read_pub (fread_base B hB) σ
end Go.Ab.S21

/- Layer 21: ref Names, told: the same acts twice. -/
namespace Go.Ab.S21
open Go Go.Proofs

theorem names_calls (ns : List ByteArray) (σ : Store) (hn : ns.length < 2 ^ 31) : ACalls Try.prog 31 [.slc (ns.map sD), .slc (ns.map sD)] σ (fun e σ' => e = .ret (.v (.bool true)) ∧ σ' = σ) := by
  have hnl : (ns.map sD).length = ns.length := List.length_map ..
  refine ACalls.of_body Try.func31 rfl Try.ntmps31 (by simp) fun C hC => ?_
  have hbne : ∀ n : Int, (n != n) = false := fun n => by simp
  repeat' (first | refine Goes.seq ?_ | refine Goes.skip ?_ | refine Goes.inBlock ?_ | refine Goes.block ?_ | refine Goes.exit rfl ?_ | (refine Goes.region [0, 1] fun K hK => ?_; simp (maxSteps := 4000000) only [go_sem, ↓reduceIte, reduceCtorEq, Nat.reduceEqDiff, Nat.reduceBEq, Int.reduceBEq, Int.reduceBNe, Nat.reduceLT, Nat.reduceLeDiff, Nat.reduceAdd, Nat.reduceSub, Nat.reduceMul, Int.reduceToNat, Int.reduceEq, Int.reduceLT, Int.reduceLE, hbne]; refine hK _ _ ?_; clear hK K))
  refine Goes.condF rfl ?_
  repeat' (first | refine Goes.seq ?_ | refine Goes.skip ?_ | refine Goes.inBlock ?_ | refine Goes.block ?_ | refine Goes.exit rfl ?_ | (refine Goes.region [0, 1] fun K hK => ?_; simp (maxSteps := 4000000) only [go_sem, ↓reduceIte, reduceCtorEq, Nat.reduceEqDiff, Nat.reduceBEq, Int.reduceBEq, Int.reduceBNe, Nat.reduceLT, Nat.reduceLeDiff, Nat.reduceAdd, Nat.reduceSub, Nat.reduceMul, Int.reduceToNat, Int.reduceEq, Int.reduceLT, Int.reduceLE]; refine hK _ _ ?_; clear hK K))
  refine Goes.rebase [0, 1, 5] ?_
  simp only [go_sem, ↓reduceIte, reduceCtorEq, Nat.reduceEqDiff, Nat.reduceBEq, Int.reduceBEq, Int.reduceBNe, Nat.reduceLT, Nat.reduceLeDiff, Nat.reduceAdd, Nat.reduceSub, Nat.reduceMul, Int.reduceToNat, Int.reduceEq, Int.reduceLT, Int.reduceLE]
  refine Goes.while (fun (i : Nat) env' σ' => i ≤ ns.length ∧ env' = [(0, .slc (ns.map sD)), (1, .slc (ns.map sD)), (5, .v (.int .i64 (i : Int)))] ∧ σ' = σ) (fun i => ns.length - i) 0 ⟨by omega, rfl, rfl⟩ ?_
  rintro i env' σ' ⟨hi, rfl, rfl⟩ ih
  repeat' (first | refine Goes.seq ?_ | refine Goes.skip ?_ | refine Goes.inBlock ?_ | refine Goes.block ?_ | refine Goes.exit rfl ?_ | (refine Goes.region [0, 1, 5] fun K hK => ?_; simp (maxSteps := 4000000) only [go_sem, ↓reduceIte, reduceCtorEq, Nat.reduceEqDiff, Nat.reduceBEq, Int.reduceBEq, Int.reduceBNe, Nat.reduceLT, Nat.reduceLeDiff, Nat.reduceAdd, Nat.reduceSub, Nat.reduceMul, Int.reduceToNat, Int.reduceEq, Int.reduceLT, Int.reduceLE]; refine hK _ _ ?_; clear hK K))
  refine Goes.cond rfl (fun h => ?_) (fun h => ?_)
  rotate_left
  · repeat' (first | refine Goes.seq ?_ | refine Goes.skip ?_ | refine Goes.inBlock ?_ | refine Goes.block ?_ | refine Goes.exit rfl ?_ | (refine Goes.region [0] fun K hK => ?_; simp (maxSteps := 4000000) only [go_sem, ↓reduceIte, reduceCtorEq, Nat.reduceEqDiff, Nat.reduceBEq, Int.reduceBEq, Int.reduceBNe, Nat.reduceLT, Nat.reduceLeDiff, Nat.reduceAdd, Nat.reduceSub, Nat.reduceMul, Int.reduceToNat, Int.reduceEq, Int.reduceLT, Int.reduceLE]; refine hK _ _ ?_; clear hK K))
    refine Goes.ret hC Try.func31 (by simp [go_sem]) ?_
    simp only [go_sem, ↓reduceIte, reduceCtorEq, Nat.reduceEqDiff, Nat.reduceBEq, Int.reduceBEq, Int.reduceBNe, Nat.reduceLT, Nat.reduceLeDiff, Nat.reduceAdd, Nat.reduceSub, Nat.reduceMul, Int.reduceToNat, Int.reduceEq, Int.reduceLT, Int.reduceLE]
  have hlt : i < ns.length := by simpa [hnl] using h
  have hg := getD_map_lt sD ns i hlt
  rw [sD] at hg
  have hi0 : (0 : Int) ≤ (i : Int) := by omega
  have hi1 : (i : Int) < ((ns.map sD).length : Int) := by omega
  refine Goes.skip ?_
  refine Goes.seq ?_
  refine Goes.block ?_
  refine Goes.seq ?_
  refine Goes.draw [0, 1, 5] [] [] [] [(0, true), (1, true), (2, true), (3, true), (4, true), (5, true), (6, true), (7, true), (8, true)] (by kernel_rfl) (by decide) (by kernel_rfl) fun K hK => ?_; simp (maxSteps := 4000000) only [go_sem, ↓reduceIte, reduceCtorEq, Nat.reduceEqDiff, Nat.reduceBEq, Int.reduceBEq, Int.reduceBNe, Nat.reduceLT, Nat.reduceLeDiff, Nat.reduceAdd, Nat.reduceSub, Nat.reduceMul, Int.reduceToNat, Int.reduceEq, Int.reduceLT, Int.reduceLE, hg, hi0, hi1]
  have hself : (!ns[i].toList == ns[i].toList) = false := by simp
  rw [hself]
  refine hK _ _ (Goes.condF rfl ?_); clear hK K
  repeat' (first | refine Goes.seq ?_ | refine Goes.skip ?_ | refine Goes.inBlock ?_ | refine Goes.block ?_ | refine Goes.exit rfl ?_ | (refine Goes.region [0, 1, 5] fun K hK => ?_; simp (maxSteps := 4000000) only [go_sem, ↓reduceIte, reduceCtorEq, Nat.reduceEqDiff, Nat.reduceBEq, Int.reduceBEq, Int.reduceBNe, Nat.reduceLT, Nat.reduceLeDiff, Nat.reduceAdd, Nat.reduceSub, Nat.reduceMul, Int.reduceToNat, Int.reduceEq, Int.reduceLT, Int.reduceLE]; refine hK _ _ ?_; clear hK K))
  refine Goes.rebase [0, 1, 5] ?_
  simp only [go_sem, ↓reduceIte, reduceCtorEq, Nat.reduceEqDiff, Nat.reduceBEq, Int.reduceBEq, Int.reduceBNe, Nat.reduceLT, Nat.reduceLeDiff, Nat.reduceAdd, Nat.reduceSub, Nat.reduceMul, Int.reduceToNat, Int.reduceEq, Int.reduceLT, Int.reduceLE]
  rw [wrap_succ i (by omega)]
  exact ih (i + 1) _ _ ⟨by omega, rfl, rfl⟩ (by omega)

theorem told_calls (l : List XAct) (σ : Store) (hl : l.length < 2 ^ 31) (hn : ∀ x ∈ l, x.names.length < 2 ^ 31 ∧ x.tails.length < 2 ^ 31) : ACalls Try.prog 15 [actsD l, actsD l] σ (fun e σ' => e = .ret (.v (.bool true)) ∧ σ' = σ) := by
  refine ACalls.still ?_ σ
  refine ACalls.forget (R := fun e _ => e = .ret (.v (.bool true))) ?_ fun e σ' h => ⟨[], SLe.nil _, h, rfl⟩
  unfold actsD
  have hll : (l.map XAct.d).length = l.length := List.length_map ..
  refine ACalls.of_body Try.func15 rfl Try.ntmps15 (by simp) fun C hC => ?_
  have hbne : ∀ n : Int, (n != n) = false := fun n => by simp
  repeat' (first | refine Goes.seq ?_ | refine Goes.skip ?_ | refine Goes.inBlock ?_ | refine Goes.block ?_ | refine Goes.exit rfl ?_ | (refine Goes.region [0, 1] fun K hK => ?_; simp (maxSteps := 4000000) only [go_sem, ↓reduceIte, reduceCtorEq, Nat.reduceEqDiff, Nat.reduceBEq, Int.reduceBEq, Int.reduceBNe, Nat.reduceLT, Nat.reduceLeDiff, Nat.reduceAdd, Nat.reduceSub, Nat.reduceMul, Int.reduceToNat, Int.reduceEq, Int.reduceLT, Int.reduceLE, hbne]; refine hK _ _ ?_; clear hK K))
  refine Goes.condF rfl ?_
  repeat' (first | refine Goes.seq ?_ | refine Goes.skip ?_ | refine Goes.inBlock ?_ | refine Goes.block ?_ | refine Goes.exit rfl ?_ | (refine Goes.region [0, 1] fun K hK => ?_; simp (maxSteps := 4000000) only [go_sem, ↓reduceIte, reduceCtorEq, Nat.reduceEqDiff, Nat.reduceBEq, Int.reduceBEq, Int.reduceBNe, Nat.reduceLT, Nat.reduceLeDiff, Nat.reduceAdd, Nat.reduceSub, Nat.reduceMul, Int.reduceToNat, Int.reduceEq, Int.reduceLT, Int.reduceLE]; refine hK _ _ ?_; clear hK K))
  refine Goes.rebase [0, 1, 5] ?_
  simp only [go_sem, ↓reduceIte, reduceCtorEq, Nat.reduceEqDiff, Nat.reduceBEq, Int.reduceBEq, Int.reduceBNe, Nat.reduceLT, Nat.reduceLeDiff, Nat.reduceAdd, Nat.reduceSub, Nat.reduceMul, Int.reduceToNat, Int.reduceEq, Int.reduceLT, Int.reduceLE]
  refine Goes.while (fun (i : Nat) env' σ' => i ≤ l.length ∧ env' = [(0, .slc (l.map XAct.d)), (1, .slc (l.map XAct.d)), (5, .v (.int .i64 (i : Int)))] ∧ σ' = []) (fun i => l.length - i) 0 ⟨by omega, rfl, rfl⟩ ?_
  rintro i env' σ' ⟨hi, rfl, rfl⟩ ih
  repeat' (first | refine Goes.seq ?_ | refine Goes.skip ?_ | refine Goes.inBlock ?_ | refine Goes.block ?_ | refine Goes.exit rfl ?_ | (refine Goes.region [0, 1, 5] fun K hK => ?_; simp (maxSteps := 4000000) only [go_sem, ↓reduceIte, reduceCtorEq, Nat.reduceEqDiff, Nat.reduceBEq, Int.reduceBEq, Int.reduceBNe, Nat.reduceLT, Nat.reduceLeDiff, Nat.reduceAdd, Nat.reduceSub, Nat.reduceMul, Int.reduceToNat, Int.reduceEq, Int.reduceLT, Int.reduceLE]; refine hK _ _ ?_; clear hK K))
  refine Goes.cond rfl (fun h => ?_) (fun h => ?_)
  rotate_left
  · repeat' (first | refine Goes.seq ?_ | refine Goes.skip ?_ | refine Goes.inBlock ?_ | refine Goes.block ?_ | refine Goes.exit rfl ?_ | (refine Goes.region [0] fun K hK => ?_; simp (maxSteps := 4000000) only [go_sem, ↓reduceIte, reduceCtorEq, Nat.reduceEqDiff, Nat.reduceBEq, Int.reduceBEq, Int.reduceBNe, Nat.reduceLT, Nat.reduceLeDiff, Nat.reduceAdd, Nat.reduceSub, Nat.reduceMul, Int.reduceToNat, Int.reduceEq, Int.reduceLT, Int.reduceLE]; refine hK _ _ ?_; clear hK K))
    refine Goes.ret hC Try.func15 (by simp [go_sem]) ?_
    simp only [go_sem, ↓reduceIte, reduceCtorEq, Nat.reduceEqDiff, Nat.reduceBEq, Int.reduceBEq, Int.reduceBNe, Nat.reduceLT, Nat.reduceLeDiff, Nat.reduceAdd, Nat.reduceSub, Nat.reduceMul, Int.reduceToNat, Int.reduceEq, Int.reduceLT, Int.reduceLE]
  have hlt : i < l.length := by simpa [hll] using h
  have hg := getD_map_lt XAct.d l i hlt
  obtain ⟨hx1, hx2⟩ := hn _ (List.getElem_mem hlt)
  generalize l[i] = x at hg hx1 hx2
  rw [XAct.d] at hg
  have hi0 : (0 : Int) ≤ (i : Int) := by omega
  have hi1 : (i : Int) < ((l.map XAct.d).length : Int) := by omega
  refine Goes.skip ?_
  refine Goes.seq ?_
  refine Goes.block ?_
  refine Goes.seq (Goes.join (fun env σ => ∃ b6 b7, eget 0 env = .slc (l.map XAct.d) ∧ eget 1 env = .slc (l.map XAct.d) ∧ eget 5 env = .v (.int .i64 (i : Int)) ∧ eget 6 env = .ptr b6 6 0 0 ∧ eget 7 env = .ptr b7 6 0 0 ∧
    sget b6 σ = some (.arr 6 [.agg [.v (.int .i64 x.kind), .v (.int .i64 x.num), .v (.string x.name), .slc (x.by_.map bD), .slc (x.names.map sD), .slc (x.tails.map iD)]]) ∧ sget b7 σ = some (.arr 6 [.agg [.v (.int .i64 x.kind), .v (.int .i64 x.num), .v (.string x.name), .slc (x.by_.map bD), .slc (x.names.map sD), .slc (x.tails.map iD)]])) ?_ ?_)
  · intro k' hk'
    refine Goes.drawT [0, 1, 5] [] [] [11] (.op 0 true (.op 1 true (.op 2 true (.op 3 true (.op 4 true (.op 5 true (.op 6 true (.op 7 true (.alt 8 9 (.op 9 false (.op 10 false (.op 11 false .nil))) (.op 8 false (.op 10 false (.op 11 false .nil)))))))))))) (by kernel_rfl) (by decide) (by kernel_rfl) fun K hK => ?_; simp (maxSteps := 4000000) only [go_sem, ↓reduceIte, reduceCtorEq, Nat.reduceEqDiff, Nat.reduceBEq, Int.reduceBEq, Int.reduceBNe, Nat.reduceLT, Nat.reduceLeDiff, Nat.reduceAdd, Nat.reduceSub, Nat.reduceMul, Int.reduceToNat, Int.reduceEq, Int.reduceLT, Int.reduceLE, hg, hi0, hi1]
    refine ⟨fun b6 b7 hb => ?_, fun b7 b6 hb => ?_⟩
    · have hne : b7 ≠ b6 := fun e => by subst e; rw [sget_self] at hb; cases hb
      simp only [go_sem, ↓reduceIte, reduceCtorEq, Nat.reduceEqDiff, Nat.reduceBEq, Int.reduceBEq, Int.reduceBNe, Nat.reduceLT, Nat.reduceLeDiff, Nat.reduceAdd, Nat.reduceSub, Nat.reduceMul, Int.reduceToNat, Int.reduceEq, Int.reduceLT, Int.reduceLE, hne, hne.symm]
      refine hK _ _ (hk' _ _ ⟨b6, b7, rfl, rfl, rfl, rfl, rfl, ?_, ?_⟩)
      · rw [sget_cons, if_neg hne.symm, sget_self]
      · rw [sget_self]
    · have hne : b7 ≠ b6 := fun e => by subst e; rw [sget_self] at hb; cases hb
      simp only [go_sem, ↓reduceIte, reduceCtorEq, Nat.reduceEqDiff, Nat.reduceBEq, Int.reduceBEq, Int.reduceBNe, Nat.reduceLT, Nat.reduceLeDiff, Nat.reduceAdd, Nat.reduceSub, Nat.reduceMul, Int.reduceToNat, Int.reduceEq, Int.reduceLT, Int.reduceLE, hne, hne.symm]
      refine hK _ _ (hk' _ _ ⟨b6, b7, rfl, rfl, rfl, rfl, rfl, ?_, ?_⟩)
      · rw [sget_self]
      · rw [sget_cons, if_neg hne, sget_self]
  rintro env σ1 ⟨b6, b7, e0, e1, e5, e6, e7, g6, g7⟩
  have hbb : ∀ b : Bool, (!(b == b)) = false := fun b => by simp
  have hsn : ∀ s : ByteArray, (!(s.toList == s.toList)) = false := fun s => by simp
  refine Goes.seq ?_
  refine Goes.seq ?_
  refine Goes.region [0, 1, 5, 6, 7] fun K hK => ?_; simp (maxSteps := 4000000) only [go_sem, ↓reduceIte, reduceCtorEq, Nat.reduceEqDiff, Nat.reduceBEq, Int.reduceBEq, Int.reduceBNe, Nat.reduceLT, Nat.reduceLeDiff, Nat.reduceAdd, Nat.reduceSub, Nat.reduceMul, Int.reduceToNat, Int.reduceEq, Int.reduceLT, Int.reduceLE, e0, e1, e5, e6, e7, g6, g7, hbne, hsn]
  refine ⟨fun y hy => List.all_eq_true.1 (allByte_bD _) y hy, fun y hy => List.all_eq_true.1 (allByte_bD _) y hy, _, Try.call31, (names_calls x.names _ hx1).mono ?_⟩
  rintro e σ2 ⟨rfl, rfl⟩
  simp only [go_sem, ↓reduceIte, reduceCtorEq, Nat.reduceEqDiff, Nat.reduceBEq, Int.reduceBEq, Int.reduceBNe, Nat.reduceLT, Nat.reduceLeDiff, Nat.reduceAdd, Nat.reduceSub, Nat.reduceMul, Int.reduceToNat, Int.reduceEq, Int.reduceLT, Int.reduceLE, e0, e1, e5, e6, e7, g6, g7, hbne, Bool.not_true]
  refine hK _ _ (Goes.condF rfl ?_); clear hK K
  have htl : (x.tails.map iD).length = x.tails.length := List.length_map ..
  refine Goes.skip ?_
  refine Goes.seq ?_
  refine Goes.region [0, 1, 5, 6, 7] fun K hK => ?_; simp (maxSteps := 4000000) only [go_sem, ↓reduceIte, reduceCtorEq, Nat.reduceEqDiff, Nat.reduceBEq, Int.reduceBEq, Int.reduceBNe, Nat.reduceLT, Nat.reduceLeDiff, Nat.reduceAdd, Nat.reduceSub, Nat.reduceMul, Int.reduceToNat, Int.reduceEq, Int.reduceLT, Int.reduceLE, e0, e1, e5, e6, e7]
  refine hK _ _ ?_; clear hK K
  refine Goes.rebase [0, 1, 5, 6, 7, 8] ?_
  simp only [go_sem, ↓reduceIte, reduceCtorEq, Nat.reduceEqDiff, Nat.reduceBEq, Int.reduceBEq, Int.reduceBNe, Nat.reduceLT, Nat.reduceLeDiff, Nat.reduceAdd, Nat.reduceSub, Nat.reduceMul, Int.reduceToNat, Int.reduceEq, Int.reduceLT, Int.reduceLE]
  refine Goes.block ?_
  refine Goes.while (fun (k : Nat) env' σ3 => k ≤ x.tails.length ∧ env' = [(0, .slc (l.map XAct.d)), (1, .slc (l.map XAct.d)), (5, .v (.int .i64 (i : Int))), (6, .ptr b6 6 0 0), (7, .ptr b7 6 0 0), (8, .v (.int .i64 (k : Int)))] ∧ σ3 = σ2) (fun k => x.tails.length - k) 0 ⟨by omega, rfl, rfl⟩ ?_
  rintro k env' σ3 ⟨hk, rfl, rfl⟩ ih2
  refine Goes.seq ?_
  refine Goes.seq ?_
  refine Goes.region [0, 1, 5, 6, 7, 8] fun K hK => ?_; simp (maxSteps := 4000000) only [go_sem, ↓reduceIte, reduceCtorEq, Nat.reduceEqDiff, Nat.reduceBEq, Int.reduceBEq, Int.reduceBNe, Nat.reduceLT, Nat.reduceLeDiff, Nat.reduceAdd, Nat.reduceSub, Nat.reduceMul, Int.reduceToNat, Int.reduceEq, Int.reduceLT, Int.reduceLE, g7]
  refine hK _ _ ?_; clear hK K
  refine Goes.cond rfl (fun h => ?_) (fun h => ?_)
  · have hklt : k < x.tails.length := by simpa [htl] using h
    have hg2 := getD_map_lt iD x.tails k hklt
    rw [iD] at hg2
    have hk0 : (0 : Int) ≤ (k : Int) := by omega
    have hk1 : (k : Int) < ((x.tails.map iD).length : Int) := by omega
    refine Goes.skip ?_
    refine Goes.seq ?_
    refine Goes.block ?_
    refine Goes.seq ?_
    refine Goes.draw [0, 1, 5, 6, 7, 8] [] [b6, b7] [] [(0, true), (1, true), (2, true), (3, true), (4, true), (5, true), (6, true), (7, true), (8, true), (9, true), (10, true)] (by kernel_rfl) (by decide) (by kernel_rfl) fun K hK => ?_; simp (maxSteps := 4000000) only [go_sem, ↓reduceIte, reduceCtorEq, Nat.reduceEqDiff, Nat.reduceBEq, Int.reduceBEq, Int.reduceBNe, Nat.reduceLT, Nat.reduceLeDiff, Nat.reduceAdd, Nat.reduceSub, Nat.reduceMul, Int.reduceToNat, Int.reduceEq, Int.reduceLT, Int.reduceLE, g6, g7, hg2, hk0, hk1, hbne]
    refine hK _ _ (Goes.condF rfl ?_); clear hK K
    repeat' (first | refine Goes.seq ?_ | refine Goes.skip ?_ | refine Goes.inBlock ?_ | refine Goes.block ?_ | refine Goes.exit rfl ?_ | (refine Goes.region [0, 1, 5, 6, 7, 8] fun K hK => ?_; simp (maxSteps := 4000000) only [go_sem, ↓reduceIte, reduceCtorEq, Nat.reduceEqDiff, Nat.reduceBEq, Int.reduceBEq, Int.reduceBNe, Nat.reduceLT, Nat.reduceLeDiff, Nat.reduceAdd, Nat.reduceSub, Nat.reduceMul, Int.reduceToNat, Int.reduceEq, Int.reduceLT, Int.reduceLE]; refine hK _ _ ?_; clear hK K))
    refine Goes.rebase [0, 1, 5, 6, 7, 8] ?_
    simp only [go_sem, ↓reduceIte, reduceCtorEq, Nat.reduceEqDiff, Nat.reduceBEq, Int.reduceBEq, Int.reduceBNe, Nat.reduceLT, Nat.reduceLeDiff, Nat.reduceAdd, Nat.reduceSub, Nat.reduceMul, Int.reduceToNat, Int.reduceEq, Int.reduceLT, Int.reduceLE]
    rw [wrap_succ k (by omega)]
    exact ih2 (k + 1) _ _ ⟨by omega, rfl, rfl⟩ (by omega)
  · repeat' (first | refine Goes.seq ?_ | refine Goes.skip ?_ | refine Goes.inBlock ?_ | refine Goes.block ?_ | refine Goes.exit rfl ?_ | (refine Goes.region [0, 1, 5] fun K hK => ?_; simp (maxSteps := 4000000) only [go_sem, ↓reduceIte, reduceCtorEq, Nat.reduceEqDiff, Nat.reduceBEq, Int.reduceBEq, Int.reduceBNe, Nat.reduceLT, Nat.reduceLeDiff, Nat.reduceAdd, Nat.reduceSub, Nat.reduceMul, Int.reduceToNat, Int.reduceEq, Int.reduceLT, Int.reduceLE]; refine hK _ _ ?_; clear hK K))
    refine Goes.rebase [0, 1, 5] ?_
    simp only [go_sem, ↓reduceIte, reduceCtorEq, Nat.reduceEqDiff, Nat.reduceBEq, Int.reduceBEq, Int.reduceBNe, Nat.reduceLT, Nat.reduceLeDiff, Nat.reduceAdd, Nat.reduceSub, Nat.reduceMul, Int.reduceToNat, Int.reduceEq, Int.reduceLT, Int.reduceLE]
    rw [wrap_succ i (by omega)]
    exact Goes.le (ELe.refl _) (SLe.nil _) (ih (i + 1) _ [] ⟨by omega, rfl, rfl⟩ (by omega))
end Go.Ab.S21

/- Layer 21: ScriptReads, as the abstract machine tells it. -/
namespace Go.Ab.S21
open Go Go.Proofs

theorem many_length {α : Type} {g : List UInt8 → Res α} : ∀ (n : Nat) {bs bs' : List UInt8} {l : List α}, manyR g n bs = .ok l bs' → l.length = n
  | 0, bs, bs', l, h => by cases h; rfl
  | n + 1, bs, bs', l, h => by
    unfold manyR at h
    cases hx : g bs with
    | err c => rw [hx] at h; cases h
    | ok a b1 =>
      rw [hx] at h
      simp only [Res.bind] at h
      cases hy : manyR g n b1 with
      | err c => rw [hy] at h; cases h
      | ok l2 b2 =>
        rw [hy] at h
        cases h
        rw [List.length_cons, many_length n hy]
theorem listR_length {α : Type} {f : Bool} {g : List UInt8 → Res α} {bs bs' : List UInt8} {l : List α} (h : optR f (listR g) [] bs = .ok l bs') : l.length < 2 ^ 31 := by
  unfold optR at h
  split at h
  · unfold listR at h
    cases hx : numR bs with
    | err c => rw [hx] at h; cases h
    | ok n b1 =>
      rw [hx] at h
      have h1 := many_length _ h
      have h2 := numR_ok hx
      omega
  · cases h; exact Nat.two_pow_pos 31
theorem actR_lists {k : Int} {bs bs' : List UInt8} {x : XAct} (h : actR k bs = .ok x bs') : x.names.length < 2 ^ 31 ∧ x.tails.length < 2 ^ 31 := by
  obtain ⟨f0, f1, f2, f3, f4, kn, hF, _⟩ := fields_cases k
  unfold actR at h
  rw [hF] at h
  simp only [] at h
  split at h
  · cases h
  cases h1 : optR f0 textR ByteArray.empty bs with
  | err c => rw [h1] at h; cases h
  | ok nm b1 =>
  rw [h1] at h
  simp only [Res.bind] at h
  cases h2 : optR f1 textR ByteArray.empty b1 with
  | err c => rw [h2] at h; cases h
  | ok by_ b2 =>
  rw [h2] at h
  simp only [] at h
  cases h3 : nR f2 k b2 with
  | err c => rw [h3] at h; cases h
  | ok n b3 =>
  rw [h3] at h
  simp only [] at h
  cases h4 : optR f3 (listR textR) [] b3 with
  | err c => rw [h4] at h; cases h
  | ok ns b4 =>
  rw [h4] at h
  simp only [] at h
  cases h5 : optR f4 (listR numR) [] b4 with
  | err c => rw [h5] at h; cases h
  | ok ts b5 =>
  rw [h5] at h
  cases h
  exact ⟨listR_length h4, listR_length h5⟩
theorem readR_lists : ∀ (n : Nat) {bs bs' : List UInt8} {l : List XAct}, readR n bs = .ok l bs' → l.length ≤ bs.length ∧ ∀ x ∈ l, x.names.length < 2 ^ 31 ∧ x.tails.length < 2 ^ 31
  | _, [], _, _, h => by simp only [readR] at h; cases h; simp
  | 0, c :: t, _, _, h => by simp only [readR] at h; cases h; simp
  | n + 1, c :: t, b, l, h => by
    rw [readR] at h
    cases hx : actR c.toNat t with
    | err e => rw [hx] at h; cases h
    | ok x bs =>
      rw [hx] at h
      simp only [Res.bind] at h
      cases hy : readR n bs with
      | err e => rw [hy] at h; cases h
      | ok l2 b2 =>
        rw [hy] at h
        cases h
        obtain ⟨h1, h2⟩ := readR_lists n hy
        have h3 := actR_len hx
        refine ⟨by simp only [List.length_cons]; omega, fun y hy => ?_⟩
        rcases List.mem_cons.1 hy with rfl | hy
        · exact actR_lists hx
        · exact h2 y hy

theorem readE_tup (bs : List UInt8) : ∃ l c, readE (readR bs.length bs) = .ret (.tup [actsD l, .v (.int .i64 c)]) ∧ l.length ≤ bs.length ∧ ∀ x ∈ l, x.names.length < 2 ^ 31 ∧ x.tails.length < 2 ^ 31 := by
  cases hx : readR bs.length bs with
  | err c => exact ⟨[], c, rfl, by simp, by simp⟩
  | ok l b =>
    obtain ⟨h1, h2⟩ := readR_lists _ hx
    exact ⟨l, 0, rfl, h1, h2⟩

theorem law_reads (bs : List UInt8) : ACalls Try.prog 5 [.slc (bs.map bD)] [] (fun e _ => e = .ret (.v (.bool true))) := by
  have hll : (bs.map bD).length = bs.length := List.length_map ..
  refine ACalls.of_body Try.func5 rfl Try.ntmps5 (by simp) fun C hC => ?_
  have ret : ∀ k env σ, eget 2 env = .v (.bool true) → Goes C (.code .ret :: k) env σ := fun k env σ h1 => by
    refine Goes.ret hC Try.func5 (by simp [go_sem]) ?_
    simp only [go_sem, ↓reduceIte, reduceCtorEq, Nat.reduceEqDiff, Nat.reduceBEq, Int.reduceBEq, Int.reduceBNe, Nat.reduceLT, Nat.reduceLeDiff, Nat.reduceAdd, Nat.reduceSub, Nat.reduceMul, Int.reduceToNat, Int.reduceEq, Int.reduceLT, Int.reduceLE, h1]
  refine Goes.seq ?_
  refine Goes.region [0] fun K hK => ?_; simp (maxSteps := 4000000) only [go_sem, ↓reduceIte, reduceCtorEq, Nat.reduceEqDiff, Nat.reduceBEq, Int.reduceBEq, Int.reduceBNe, Nat.reduceLT, Nat.reduceLeDiff, Nat.reduceAdd, Nat.reduceSub, Nat.reduceMul, Int.reduceToNat, Int.reduceEq, Int.reduceLT, Int.reduceLE]
  refine hK _ _ ?_; clear hK K
  refine Goes.seq ?_
  refine Goes.seq ?_
  refine Goes.region [0, 2] fun K hK => ?_; simp (maxSteps := 4000000) only [go_sem, ↓reduceIte, reduceCtorEq, Nat.reduceEqDiff, Nat.reduceBEq, Int.reduceBEq, Int.reduceBNe, Nat.reduceLT, Nat.reduceLeDiff, Nat.reduceAdd, Nat.reduceSub, Nat.reduceMul, Int.reduceToNat, Int.reduceEq, Int.reduceLT, Int.reduceLE]
  refine hK _ _ (Goes.cond rfl (fun h => ?_) (fun h => ?_)); all_goals clear hK K
  · repeat' (first | refine Goes.seq ?_ | refine Goes.skip ?_ | refine Goes.inBlock ?_ | refine Goes.block ?_ | refine Goes.exit rfl ?_ | (refine Goes.region [0, 2] fun K hK => ?_; simp (maxSteps := 4000000) only [go_sem, ↓reduceIte, reduceCtorEq, Nat.reduceEqDiff, Nat.reduceBEq, Int.reduceBEq, Int.reduceBNe, Nat.reduceLT, Nat.reduceLeDiff, Nat.reduceAdd, Nat.reduceSub, Nat.reduceMul, Int.reduceToNat, Int.reduceEq, Int.reduceLT, Int.reduceLE]; refine hK _ _ ?_; clear hK K))
    exact ret _ _ _ rfl
  have hlen : bs.length ≤ 3000 := by simp at h; omega
  refine Goes.skip ?_
  refine Goes.seq ?_
  refine Goes.regionM [0, 2] [11, 13] fun K hK => ?_; simp (maxSteps := 4000000) only [go_sem, ↓reduceIte, reduceCtorEq, Nat.reduceEqDiff, Nat.reduceBEq, Int.reduceBEq, Int.reduceBNe, Nat.reduceLT, Nat.reduceLeDiff, Nat.reduceAdd, Nat.reduceSub, Nat.reduceMul, Int.reduceToNat, Int.reduceEq, Int.reduceLT, Int.reduceLE]
  obtain ⟨l, c, hE, hl1, hl2⟩ := readE_tup bs
  refine ⟨⟨plain_bD bs, by omega, by omega⟩, _, Try.call13, (read_calls bs _ (by omega)).mono ?_⟩
  rintro e σ1 ⟨rfl, rfl⟩
  rw [hE]
  simp only [go_sem, ↓reduceIte, reduceCtorEq, Nat.reduceEqDiff, Nat.reduceBEq, Int.reduceBEq, Int.reduceBNe, Nat.reduceLT, Nat.reduceLeDiff, Nat.reduceAdd, Nat.reduceSub, Nat.reduceMul, Int.reduceToNat, Int.reduceEq, Int.reduceLT, Int.reduceLE]
  refine hK _ _ ?_; clear hK K
  refine Goes.seq ?_
  refine Goes.region [0, 3, 4] fun K hK => ?_; simp (maxSteps := 4000000) only [go_sem, ↓reduceIte, reduceCtorEq, Nat.reduceEqDiff, Nat.reduceBEq, Int.reduceBEq, Int.reduceBNe, Nat.reduceLT, Nat.reduceLeDiff, Nat.reduceAdd, Nat.reduceSub, Nat.reduceMul, Int.reduceToNat, Int.reduceEq, Int.reduceLT, Int.reduceLE]
  refine ⟨_, Try.call14, (fread_calls bs _ (by omega)).mono ?_⟩
  rintro e σ2 ⟨rfl, rfl⟩
  rw [hE]
  simp only [go_sem, ↓reduceIte, reduceCtorEq, Nat.reduceEqDiff, Nat.reduceBEq, Int.reduceBEq, Int.reduceBNe, Nat.reduceLT, Nat.reduceLeDiff, Nat.reduceAdd, Nat.reduceSub, Nat.reduceMul, Int.reduceToNat, Int.reduceEq, Int.reduceLT, Int.reduceLE]
  refine hK _ _ ?_; clear hK K
  refine Goes.seq ?_
  refine Goes.region [3, 4, 5, 6] fun K hK => ?_; simp (maxSteps := 4000000) only [go_sem, ↓reduceIte, reduceCtorEq, Nat.reduceEqDiff, Nat.reduceBEq, Int.reduceBEq, Int.reduceBNe, Nat.reduceLT, Nat.reduceLeDiff, Nat.reduceAdd, Nat.reduceSub, Nat.reduceMul, Int.reduceToNat, Int.reduceEq, Int.reduceLT, Int.reduceLE]
  refine ⟨_, Try.call15, (told_calls l _ (by omega) hl2).mono ?_⟩
  rintro e σ3 ⟨rfl, rfl⟩
  have hcc : (c == c) = true := by simp
  simp only [go_sem, ↓reduceIte, reduceCtorEq, Nat.reduceEqDiff, Nat.reduceBEq, Int.reduceBEq, Int.reduceBNe, Nat.reduceLT, Nat.reduceLeDiff, Nat.reduceAdd, Nat.reduceSub, Nat.reduceMul, Int.reduceToNat, Int.reduceEq, Int.reduceLT, Int.reduceLE, hcc]
  refine ⟨_, Try.call11, (awake_calls _).mono ?_⟩
  rintro e σ4 ⟨rfl, rfl⟩
  simp only [go_sem, ↓reduceIte, reduceCtorEq, Nat.reduceEqDiff, Nat.reduceBEq, Int.reduceBEq, Int.reduceBNe, Nat.reduceLT, Nat.reduceLeDiff, Nat.reduceAdd, Nat.reduceSub, Nat.reduceMul, Int.reduceToNat, Int.reduceEq, Int.reduceLT, Int.reduceLE]
  refine hK _ _ ?_; clear hK K
  exact ret _ _ _ rfl

theorem wt_bytesv {d : D} (h : WTv (.slice (.int .u8)) d) : ∃ bs : List UInt8, d = .slc (bs.map bD) := by
  obtain ⟨l, hl⟩ := wt_bytes (h.1 rfl)
  exact ⟨l, by simpa using hl⟩

theorem reads_true (xs : List D) (h : WTvs [.slice (.int .u8)] xs) : ACalls Try.prog 5 xs [] (fun e _ => e = .ret (.v (.bool true))) := by
  obtain ⟨d, ds, rfl, h1, h2⟩ := h
  unfold WTvs at h2
  subst h2
  obtain ⟨l, rfl⟩ := wt_bytesv h1
  exact law_reads l
end Go.Ab.S21
