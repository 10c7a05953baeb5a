/- Layer 21: the statement's own functions, and the document's. -/
import Derived.Test.YtcpcfglccnmmnaaS21A
set_option linter.unusedSimpArgs false
set_option linter.unusedVariables false
set_option linter.constructorNameAsVariable false
namespace Go.Ab.S21
open Go Go.Proofs

theorem refText_slc (s : ByteArray) (σ : Store) (hs : s.size < 65536) : ACalls Try.prog 21 [.v (.string s)] σ (fun e σ' => e = .ret (.tup [.slc ((tx s).map bD), .v (.bool true)]) ∧ σ' = σ) := by
  refine (refText s [] hs).pub1 (fun e σ' hR => ?_) σ
  obtain ⟨b, hb, rfl, rfl⟩ := hR
  refine .inr ⟨_, b, 1, _, rfl, rfl, ?_⟩
  have : (tx s).length = 2 + s.size := by simp [tx, le]
  simp only [D.pub, pubs, true_and, List.length_map]
  show AEnd.ret (.tup [if 2 + s.size ≤ (tx s).length then .slc (((tx s).map bD).take (2 + s.size)) else _, _]) = _
  rw [if_pos (by omega), List.take_of_length_le (by rw [List.length_map]; omega)]

theorem refNumber_slc (v many : Nat) (σ : Store) (hv : v < 18446744073709551616) (hm : many < 9) (h0 : 0 < many) : ACalls Try.prog 22 [.v (.int .u64 v), .v (.int .i64 many)] σ (fun e σ' => e = .ret (.slc ((le v many).map bD)) ∧ σ' = σ) := by
  refine (refNumber v many [] hv hm h0).pub1 (fun e σ' hR => ?_) σ
  obtain ⟨b, hb, rfl, rfl⟩ := hR
  refine .inr ⟨_, b, 1, _, rfl, rfl, ?_⟩
  have : (le v many).length = many := by simp [le]
  simp only [D.pub, true_and, List.length_map]
  rw [if_pos (by omega), List.take_of_length_le (by rw [List.length_map]; omega)]

theorem awake_calls (σ : Store) : ACalls Try.prog 11 [] σ (fun e σ' => e = .ret (.v (.bool true)) ∧ σ' = σ) := by
  refine ACalls.still ?_ σ
  refine ACalls.forget (R := fun e _ => e = .ret (.v (.bool true))) ?_ fun e σ' h => ⟨[], SLe.nil _, h, rfl⟩
  refine ACalls.of_body Try.func11 rfl Try.ntmps11 (by simp) fun C hC => ?_
  let x : XAct := ⟨4, 0, ⟨#[97]⟩, [], [], []⟩
  have hfw : firstWrong [x] = 0 := by decide
  have hab : allBytes [x] = [4, 1, 0, 97] := by decide
  refine Goes.seq ?_
  refine Goes.region [0] fun K hK => ?_; simp (maxSteps := 4000000) only [go_sem, ↓reduceIte, reduceCtorEq, Nat.reduceEqDiff, Nat.reduceBEq, Int.reduceBEq, Int.reduceBNe, Nat.reduceLT, Nat.reduceLeDiff, Nat.reduceAdd, Nat.reduceSub, Nat.reduceMul, Int.reduceToNat, Int.reduceEq, Int.reduceLT, Int.reduceLE]
  refine hK _ _ ?_; clear hK K
  refine Goes.seq ?_
  refine Goes.regionM [0] [5] fun K hK => ?_; simp (maxSteps := 4000000) only [go_sem, ↓reduceIte, reduceCtorEq, Nat.reduceEqDiff, Nat.reduceBEq, Int.reduceBEq, Int.reduceBNe, Nat.reduceLT, Nat.reduceLeDiff, Nat.reduceAdd, Nat.reduceSub, Nat.reduceMul, Int.reduceToNat, Int.reduceEq, Int.reduceLT, Int.reduceLE]
  have hD : DLe (.slc [D.agg [.v (.int .i64 4), .v (.int .i64 0), .v (.string ⟨#[97]⟩), .v (.slice none 0 0), .v (.slice none 0 0), .v (.slice none 0 0)]]) (actsD [x]) := by
    refine DLe.slc (ys := [D.agg [.v (.int .i64 4), .v (.int .i64 0), .v (.string ⟨#[97]⟩), .slc [], .slc [], .slc []]]) (fun w S vs h => ?_) rfl
    obtain ⟨a0, r0, rfl, g0, h⟩ := h.cons_inv
    obtain ⟨a1, r1, rfl, g1, h⟩ := h.cons_inv
    obtain ⟨a2, r2, rfl, g2, h⟩ := h.cons_inv
    obtain ⟨a3, r3, rfl, g3, h⟩ := h.cons_inv
    obtain ⟨a4, r4, rfl, g4, h⟩ := h.cons_inv
    obtain ⟨a5, r5, rfl, g5, h⟩ := h.cons_inv
    exact .cons g0 (.cons g1 (.cons g2 (.cons (DLe.nil_slc _ _ _ g3) (.cons (DLe.nil_slc _ _ _ g4) (.cons (DLe.nil_slc _ _ _ g5) h)))))
  have hle : ∀ w S vs, RepL w S [D.slc [D.agg [.v (.int .i64 4), .v (.int .i64 0), .v (.string ⟨#[97]⟩), .v (.slice none 0 0), .v (.slice none 0 0), .v (.slice none 0 0)]]] vs → RepL w S [actsD [x]] vs := fun w S vs h => by
    obtain ⟨v, vs', rfl, h1, h2⟩ := h.cons_inv
    exact .cons (hD _ _ _ h1) h2
  refine ⟨by decide, _, Try.call8, ((write_calls [x] [] ?_ (by rw [hab]; decide) (by decide)).args_le hle).mono ?_⟩
  · intro y hy
    simp only [List.mem_singleton] at hy
    subst hy
    exact ⟨by decide, by decide, by decide, by simp [x], by decide⟩
  intro e σ1 hR
  rw [if_pos hfw, hab] at hR
  obtain ⟨o, rfl, hf, hz, rfl⟩ := hR
  simp only [go_sem, ↓reduceIte, reduceCtorEq, Nat.reduceEqDiff, Nat.reduceBEq, Int.reduceBEq, Int.reduceBNe, Nat.reduceLT, Nat.reduceLeDiff, Nat.reduceAdd, Nat.reduceSub, Nat.reduceMul, Int.reduceToNat, Int.reduceEq, Int.reduceLT, Int.reduceLE]
  refine hK _ _ ?_; clear hK K
  obtain ⟨b, rfl⟩ : ∃ b, o = some b := by
    cases o with
    | none => have := hz rfl; cases this
    | some b => exact ⟨b, rfl⟩
  refine Goes.seq ?_
  refine Goes.region [0, 1, 2] fun K hK => ?_; simp (maxSteps := 4000000) only [go_sem, ↓reduceIte, reduceCtorEq, Nat.reduceEqDiff, Nat.reduceBEq, Int.reduceBEq, Int.reduceBNe, Nat.reduceLT, Nat.reduceLeDiff, Nat.reduceAdd, Nat.reduceSub, Nat.reduceMul, Int.reduceToNat, Int.reduceEq, Int.reduceLT, Int.reduceLE]
  refine ⟨by decide, hK _ _ ?_⟩; clear hK K
  refine Goes.ret hC Try.func11 (by simp [go_sem]) ?_
  simp only [go_sem, ↓reduceIte, reduceCtorEq, Nat.reduceEqDiff, Nat.reduceBEq, Int.reduceBEq, Int.reduceBNe, Nat.reduceLT, Nat.reduceLeDiff, Nat.reduceAdd, Nat.reduceSub, Nat.reduceMul, Int.reduceToNat, Int.reduceEq, Int.reduceLT, Int.reduceLE]
  have hb4 : bytesOf [D.v (Value.int IntKind.u8 ((UInt8.toNat 4 : Nat) : Int)), D.v (Value.int IntKind.u8 ((UInt8.toNat 1 : Nat) : Int)), D.v (Value.int IntKind.u8 ((UInt8.toNat 0 : Nat) : Int)), D.v (Value.int IntKind.u8 ((UInt8.toNat 97 : Nat) : Int))] = ⟨#[4, 1, 0, 97]⟩ := bytesOf_bD [4, 1, 0, 97]
  rw [hb4, beq_self_eq_true]

def light1 (x : XAct) : Bool := decide (x.name.size ≤ 120) && decide (x.by_.length ≤ 2000) && decide (x.names.length ≤ 5) && decide (x.tails.length ≤ 10) && x.names.all fun s => decide (s.size ≤ 120)
def lightB (l : List XAct) : Bool := decide (l.length ≤ 40) && l.all light1

theorem light1_iff (x : XAct) : light1 x = true ↔ x.name.size ≤ 120 ∧ x.by_.length ≤ 2000 ∧ x.names.length ≤ 5 ∧ x.tails.length ≤ 10 ∧ ∀ s ∈ x.names, s.size ≤ 120 := by
  simp [light1, and_assoc]

theorem light_calls (l : List XAct) (σ : Store) : ACalls Try.prog 7 [actsD l] σ (fun e σ' => e = .ret (.v (.bool (lightB l))) ∧ σ' = σ) := by
  unfold actsD
  have hlen : (l.map XAct.d).length = l.length := List.length_map ..
  refine ACalls.of_body Try.func7 rfl Try.ntmps7 (by simp) fun C hC => ?_
  have ret : ∀ k env t, eget 2 env = .v (.bool t) → lightB l = t → Goes C (.code .ret :: k) env σ := fun k env t h1 h2 => by
    refine Goes.ret hC Try.func7 (by simp [go_sem]) ?_
    simp only [go_sem, ↓reduceIte, reduceCtorEq, Nat.reduceEqDiff, Nat.reduceBEq, Int.reduceBEq, Int.reduceBNe, Nat.reduceLT, Nat.reduceLeDiff, Nat.reduceAdd, Nat.reduceSub, Nat.reduceMul, Int.reduceToNat, Int.reduceEq, Int.reduceLT, Int.reduceLE, h1, h2]
  repeat' (first | refine Goes.seq ?_ | refine Goes.skip ?_ | refine Goes.inBlock ?_ | refine Goes.block ?_ | refine Goes.exit rfl ?_ | (refine Goes.region [0, 2, 3, 4] fun K hK => ?_; simp (maxSteps := 4000000) only [go_sem, ↓reduceIte, reduceCtorEq, Nat.reduceEqDiff, Nat.reduceBEq, Int.reduceBEq, Int.reduceBNe, Nat.reduceLT, Nat.reduceLeDiff, Nat.reduceAdd, Nat.reduceSub, Nat.reduceMul, Int.reduceToNat, Int.reduceEq, Int.reduceLT, Int.reduceLE]; refine hK _ _ ?_; clear hK K))
  refine Goes.cond rfl (fun h => ?_) (fun h => ?_)
  · repeat' (first | refine Goes.seq ?_ | refine Goes.skip ?_ | refine Goes.inBlock ?_ | refine Goes.block ?_ | refine Goes.exit rfl ?_ | (refine Goes.region [0, 2, 3, 4] fun K hK => ?_; simp (maxSteps := 4000000) only [go_sem, ↓reduceIte, reduceCtorEq, Nat.reduceEqDiff, Nat.reduceBEq, Int.reduceBEq, Int.reduceBNe, Nat.reduceLT, Nat.reduceLeDiff, Nat.reduceAdd, Nat.reduceSub, Nat.reduceMul, Int.reduceToNat, Int.reduceEq, Int.reduceLT, Int.reduceLE]; refine hK _ _ ?_; clear hK K))
    refine ret _ _ _ rfl ?_
    have : ¬ l.length ≤ 40 := by simp at h; omega
    simp [lightB, this]
  have h40 : l.length ≤ 40 := by simp at h; omega
  repeat' (first | refine Goes.seq ?_ | refine Goes.skip ?_ | refine Goes.inBlock ?_ | refine Goes.block ?_ | refine Goes.exit rfl ?_ | (refine Goes.region [0, 2, 3, 4] fun K hK => ?_; simp (maxSteps := 4000000) only [go_sem, ↓reduceIte, reduceCtorEq, Nat.reduceEqDiff, Nat.reduceBEq, Int.reduceBEq, Int.reduceBNe, Nat.reduceLT, Nat.reduceLeDiff, Nat.reduceAdd, Nat.reduceSub, Nat.reduceMul, Int.reduceToNat, Int.reduceEq, Int.reduceLT, Int.reduceLE]; refine hK _ _ ?_; clear hK K))
  refine Goes.rebase [0, 3] ?_
  simp only [go_sem, ↓reduceIte, reduceCtorEq, Nat.reduceEqDiff, Nat.reduceBEq, Int.reduceBEq, Int.reduceBNe, Nat.reduceLT, Nat.reduceLeDiff, Nat.reduceAdd, Nat.reduceSub, Nat.reduceMul, Int.reduceToNat, Int.reduceEq, Int.reduceLT, Int.reduceLE]
  refine Goes.while (fun (i : Nat) env' σ' => i ≤ l.length ∧ (l.take i).all light1 = true ∧ env' = [(0, .slc (l.map XAct.d)), (3, .v (.int .i64 (i : Int)))] ∧ σ' = σ) (fun i => l.length - i) 0 ⟨by omega, rfl, rfl, rfl⟩ ?_
  rintro i env' σ' ⟨hi, hall, rfl, rfl⟩ ih
  repeat' (first | refine Goes.seq ?_ | refine Goes.skip ?_ | refine Goes.inBlock ?_ | refine Goes.block ?_ | refine Goes.exit rfl ?_ | (refine Goes.region [0, 3] fun K hK => ?_; simp (maxSteps := 4000000) only [go_sem, ↓reduceIte, reduceCtorEq, Nat.reduceEqDiff, Nat.reduceBEq, Int.reduceBEq, Int.reduceBNe, Nat.reduceLT, Nat.reduceLeDiff, Nat.reduceAdd, Nat.reduceSub, Nat.reduceMul, Int.reduceToNat, Int.reduceEq, Int.reduceLT, Int.reduceLE]; refine hK _ _ ?_; clear hK K))
  refine Goes.cond rfl (fun h => ?_) (fun h => ?_)
  rotate_left
  · have hge : ¬ i < l.length := by simpa [hlen] using h
    have : i = l.length := by omega
    subst this
    rw [List.take_length] at hall
    repeat' (first | refine Goes.seq ?_ | refine Goes.skip ?_ | refine Goes.inBlock ?_ | refine Goes.block ?_ | refine Goes.exit rfl ?_ | (refine Goes.region [0] fun K hK => ?_; simp (maxSteps := 4000000) only [go_sem, ↓reduceIte, reduceCtorEq, Nat.reduceEqDiff, Nat.reduceBEq, Int.reduceBEq, Int.reduceBNe, Nat.reduceLT, Nat.reduceLeDiff, Nat.reduceAdd, Nat.reduceSub, Nat.reduceMul, Int.reduceToNat, Int.reduceEq, Int.reduceLT, Int.reduceLE]; refine hK _ _ ?_; clear hK K))
    refine ret _ _ _ rfl ?_
    simp [lightB, hall, h40]
  have hlt : i < l.length := by simpa [hlen] using h
  have hg := getD_map_lt XAct.d l i hlt
  rw [XAct.d] at hg
  have bad : light1 l[i] = false → lightB l = false := fun h => by
    have : l.all light1 = false := List.all_eq_false.2 ⟨l[i], List.getElem_mem hlt, by rw [h]; simp⟩
    simp [lightB, this]
  refine Goes.skip ?_
  refine Goes.seq ?_
  refine Goes.block ?_
  have hi0 : (0 : Int) ≤ (i : Int) := by omega
  have hi1 : (i : Int) < ((l.map XAct.d).length : Int) := by omega
  refine Goes.seq (Goes.join (fun env' σ'' => eget 0 env' = .slc (l.map XAct.d) ∧ eget 3 env' = .v (.int .i64 (i : Int)) ∧ σ'' = σ' ∧ l[i].name.size ≤ 120 ∧ l[i].by_.length ≤ 2000 ∧ l[i].names.length ≤ 5 ∧ l[i].tails.length ≤ 10) ?_ ?_)
  · intro k' hk'
    refine Goes.seq ?_
    refine Goes.region [0, 3] fun K hK => ?_; simp (maxSteps := 4000000) only [go_sem, ↓reduceIte, reduceCtorEq, Nat.reduceEqDiff, Nat.reduceBEq, Int.reduceBEq, Int.reduceBNe, Nat.reduceLT, Nat.reduceLeDiff, Nat.reduceAdd, Nat.reduceSub, Nat.reduceMul, Int.reduceToNat, Int.reduceEq, Int.reduceLT, Int.reduceLE, hg, hi0, hi1]
    repeat' (refine ite_intro (fun hc => ?_) (fun hc => ?_))
    all_goals
      refine hK _ _ (Goes.cond rfl (fun h => ?_) (fun h => ?_))
      · repeat' (first | refine Goes.seq ?_ | refine Goes.skip ?_ | refine Goes.inBlock ?_ | refine Goes.block ?_ | refine Goes.exit rfl ?_ | (refine Goes.region [0, 2, 3] fun K hK => ?_; simp (maxSteps := 4000000) only [go_sem, ↓reduceIte, reduceCtorEq, Nat.reduceEqDiff, Nat.reduceBEq, Int.reduceBEq, Int.reduceBNe, Nat.reduceLT, Nat.reduceLeDiff, Nat.reduceAdd, Nat.reduceSub, Nat.reduceMul, Int.reduceToNat, Int.reduceEq, Int.reduceLT, Int.reduceLE]; refine hK _ _ ?_; clear hK K))
        refine ret _ _ _ rfl (bad ?_)
        cases hb : light1 l[i] with
        | false => rfl
        | true =>
          rw [light1_iff] at hb
          exfalso
          simp at *
          omega
      · first
        | cases h
        | (refine Goes.skip (hk' _ _ ⟨rfl, rfl, rfl, ?_⟩)
           simp at *
           omega)
  rintro env' σ'' ⟨e0, e3, rfl, c1, c2, c3, c4⟩
  have hnl : (l[i].names.map sD).length = l[i].names.length := List.length_map ..
  refine Goes.seq ?_
  refine Goes.region [0, 3] fun K hK => ?_; simp (maxSteps := 4000000) only [go_sem, ↓reduceIte, reduceCtorEq, Nat.reduceEqDiff, Nat.reduceBEq, Int.reduceBEq, Int.reduceBNe, Nat.reduceLT, Nat.reduceLeDiff, Nat.reduceAdd, Nat.reduceSub, Nat.reduceMul, Int.reduceToNat, Int.reduceEq, Int.reduceLT, Int.reduceLE, e0, e3]
  refine hK _ _ ?_; clear hK K
  refine Goes.rebase [0, 3, 4] ?_
  simp only [go_sem, ↓reduceIte, reduceCtorEq, Nat.reduceEqDiff, Nat.reduceBEq, Int.reduceBEq, Int.reduceBNe, Nat.reduceLT, Nat.reduceLeDiff, Nat.reduceAdd, Nat.reduceSub, Nat.reduceMul, Int.reduceToNat, Int.reduceEq, Int.reduceLT, Int.reduceLE]
  refine Goes.block ?_
  refine Goes.while (fun (k : Nat) env' σ3 => k ≤ l[i].names.length ∧ (∀ s ∈ l[i].names.take k, s.size ≤ 120) ∧ env' = [(0, .slc (l.map XAct.d)), (3, .v (.int .i64 (i : Int))), (4, .v (.int .i64 (k : Int)))] ∧ σ3 = σ'') (fun k => l[i].names.length - k) 0 ⟨by omega, by simp, rfl, rfl⟩ ?_
  rintro k env' σ3 ⟨hk, hnm, rfl, rfl⟩ ih2
  refine Goes.seq ?_
  refine Goes.seq ?_
  refine Goes.region [0, 3, 4] fun K hK => ?_; simp (maxSteps := 4000000) only [go_sem, ↓reduceIte, reduceCtorEq, Nat.reduceEqDiff, Nat.reduceBEq, Int.reduceBEq, Int.reduceBNe, Nat.reduceLT, Nat.reduceLeDiff, Nat.reduceAdd, Nat.reduceSub, Nat.reduceMul, Int.reduceToNat, Int.reduceEq, Int.reduceLT, Int.reduceLE, hg, hi0, hi1]
  refine hK _ _ ?_; clear hK K
  refine Goes.cond rfl (fun h => ?_) (fun h => ?_)
  · have hklt : k < l[i].names.length := by simpa [hnl] using h
    have hg2 := getD_map_lt sD l[i].names k hklt
    rw [sD] at hg2
    have hk0 : (0 : Int) ≤ (k : Int) := by omega
    have hk1 : (k : Int) < ((l[i].names.map sD).length : Int) := by omega
    refine Goes.skip ?_
    refine Goes.seq ?_
    refine Goes.block ?_
    refine Goes.seq ?_
    refine Goes.region [0, 3, 4] fun K hK => ?_; simp (maxSteps := 4000000) only [go_sem, ↓reduceIte, reduceCtorEq, Nat.reduceEqDiff, Nat.reduceBEq, Int.reduceBEq, Int.reduceBNe, Nat.reduceLT, Nat.reduceLeDiff, Nat.reduceAdd, Nat.reduceSub, Nat.reduceMul, Int.reduceToNat, Int.reduceEq, Int.reduceLT, Int.reduceLE, hg, hi0, hi1, hg2, hk0, hk1]
    refine hK _ _ ?_; clear hK K
    refine Goes.cond rfl (fun h => ?_) (fun h => ?_)
    · repeat' (first | refine Goes.seq ?_ | refine Goes.skip ?_ | refine Goes.inBlock ?_ | refine Goes.block ?_ | refine Goes.exit rfl ?_ | (refine Goes.region [0, 2, 3] fun K hK => ?_; simp (maxSteps := 4000000) only [go_sem, ↓reduceIte, reduceCtorEq, Nat.reduceEqDiff, Nat.reduceBEq, Int.reduceBEq, Int.reduceBNe, Nat.reduceLT, Nat.reduceLeDiff, Nat.reduceAdd, Nat.reduceSub, Nat.reduceMul, Int.reduceToNat, Int.reduceEq, Int.reduceLT, Int.reduceLE]; refine hK _ _ ?_; clear hK K))
      refine ret _ _ _ rfl (bad ?_)
      cases hb : light1 l[i] with
      | false => rfl
      | true =>
        rw [light1_iff] at hb
        have := hb.2.2.2.2 _ (List.getElem_mem hklt)
        simp at h
        omega
    · refine Goes.skip ?_
      repeat' (first | refine Goes.seq ?_ | refine Goes.skip ?_ | refine Goes.inBlock ?_ | refine Goes.block ?_ | refine Goes.exit rfl ?_ | (refine Goes.region [0, 3, 4] fun K hK => ?_; simp (maxSteps := 4000000) only [go_sem, ↓reduceIte, reduceCtorEq, Nat.reduceEqDiff, Nat.reduceBEq, Int.reduceBEq, Int.reduceBNe, Nat.reduceLT, Nat.reduceLeDiff, Nat.reduceAdd, Nat.reduceSub, Nat.reduceMul, Int.reduceToNat, Int.reduceEq, Int.reduceLT, Int.reduceLE]; refine hK _ _ ?_; clear hK K))
      refine Goes.rebase [0, 3, 4] ?_
      simp only [go_sem, ↓reduceIte, reduceCtorEq, Nat.reduceEqDiff, Nat.reduceBEq, Int.reduceBEq, Int.reduceBNe, Nat.reduceLT, Nat.reduceLeDiff, Nat.reduceAdd, Nat.reduceSub, Nat.reduceMul, Int.reduceToNat, Int.reduceEq, Int.reduceLT, Int.reduceLE]
      rw [wrap_succ k (by omega)]
      refine ih2 (k + 1) _ _ ⟨by omega, ?_, rfl, rfl⟩ (by omega)
      rw [List.take_succ_eq_append_getElem hklt]
      intro s hs
      rcases List.mem_append.1 hs with hs | hs
      · exact hnm s hs
      · simp only [List.mem_singleton] at hs; rw [hs]; simp at h; omega
  · have hge : ¬ k < l[i].names.length := by simpa [hnl] using h
    have : k = l[i].names.length := by omega
    rw [this, List.take_length] at hnm
    have hok : light1 l[i] = true := (light1_iff _).2 ⟨c1, c2, c3, c4, hnm⟩
    repeat' (first | refine Goes.seq ?_ | refine Goes.skip ?_ | refine Goes.inBlock ?_ | refine Goes.block ?_ | refine Goes.exit rfl ?_ | (refine Goes.region [0, 3] fun K hK => ?_; simp (maxSteps := 4000000) only [go_sem, ↓reduceIte, reduceCtorEq, Nat.reduceEqDiff, Nat.reduceBEq, Int.reduceBEq, Int.reduceBNe, Nat.reduceLT, Nat.reduceLeDiff, Nat.reduceAdd, Nat.reduceSub, Nat.reduceMul, Int.reduceToNat, Int.reduceEq, Int.reduceLT, Int.reduceLE]; refine hK _ _ ?_; clear hK K))
    refine Goes.rebase [0, 3] ?_
    simp only [go_sem, ↓reduceIte, reduceCtorEq, Nat.reduceEqDiff, Nat.reduceBEq, Int.reduceBEq, Int.reduceBNe, Nat.reduceLT, Nat.reduceLeDiff, Nat.reduceAdd, Nat.reduceSub, Nat.reduceMul, Int.reduceToNat, Int.reduceEq, Int.reduceLT, Int.reduceLE]
    rw [wrap_succ i (by omega)]
    refine ih (i + 1) _ _ ⟨by omega, ?_, rfl, rfl⟩ (by omega)
    rw [List.take_succ_eq_append_getElem hlt, List.all_append, hall]
    simp [hok]
end Go.Ab.S21
