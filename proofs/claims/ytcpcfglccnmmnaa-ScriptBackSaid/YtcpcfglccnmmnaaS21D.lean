/- Layer 21: the document's error of an act. -/
import Derived.Test.YtcpcfglccnmmnaaS21C
set_option linter.unusedSimpArgs false
set_option linter.unusedVariables false
set_option linter.constructorNameAsVariable false
namespace Go.Ab.S21
open Go Go.Proofs


theorem bytes_loop (s : ByteArray) : ∀ (n i : Nat) (r : List UInt8), s.size - i = n → ByteArray.toList.loop s i r = r.reverse ++ s.data.toList.drop i := by
  intro n
  induction n with
  | zero =>
    intro i r h
    rw [ByteArray.toList.loop, if_neg (by omega), List.drop_of_length_le (by simp; omega), List.append_nil]
  | succ n ih =>
    intro i r h
    have hi : i < s.size := by omega
    rw [ByteArray.toList.loop, if_pos hi, ih (i + 1) _ (by omega), List.reverse_cons, List.append_assoc]
    have : s.data.toList.drop i = s.get! i :: s.data.toList.drop (i + 1) := by
      rw [List.drop_eq_getElem_cons (by simpa using hi)]
      congr 1
      simp [ByteArray.get!, hi]
    rw [this]; rfl

theorem toList_data (s : ByteArray) : s.toList = s.data.toList := by
  unfold ByteArray.toList
  rw [bytes_loop s s.size 0 [] (by omega)]; rfl

/-- The letters tell the fields. -/
theorem letters_has (k : Int) : ∃ f0 f1 f2 f3 f4 kn, fieldsD k = ([f0, f1, f2, f3, f4], kn) ∧ hasB (lettersD k) 110 = f0 ∧ hasB (lettersD k) 98 = f1 ∧ hasB (lettersD k) 105 = f2 ∧ hasB (lettersD k) 108 = f3 ∧ hasB (lettersD k) 116 = f4 ∧
    ((lettersD k).toList == ByteArray.toList ⟨#[63]⟩) = !kn ∧ (lettersD k).size < 3 ∧ (k = 9 → f2 = true) ∧
    ((f0, f1, f2, f3, f4, kn) = (true, true, false, false, false, true) ∨ (f0, f1, f2, f3, f4, kn) = (true, false, true, false, false, true) ∨ (f0, f1, f2, f3, f4, kn) = (true, false, false, false, false, true) ∨
    (f0, f1, f2, f3, f4, kn) = (false, false, false, true, false, true) ∨ (f0, f1, f2, f3, f4, kn) = (false, false, false, false, false, true) ∨ (f0, f1, f2, f3, f4, kn) = (false, false, true, false, false, true) ∨
    (f0, f1, f2, f3, f4, kn) = (false, false, true, false, true, true) ∨ (f0, f1, f2, f3, f4, kn) = (false, false, false, false, false, false)) := by
  have q : ∀ l : List UInt8, l ≠ [63] → ((⟨l.toArray⟩ : ByteArray).toList == ByteArray.toList ⟨#[63]⟩) = false := fun l h => by
    rw [beq_eq_false_iff_ne, toList_data, toList_data]
    simpa using h
  unfold fieldsD lettersD
  by_cases h1 : k = 1 ∨ k = 2
  · simp only [h1, if_true]; exact ⟨_, _, _, _, _, _, rfl, by decide, by decide, by decide, by decide, by decide, q [110, 98] (by decide), by decide, fun h9 => by first | rfl | (exfalso; omega), by simp⟩
  by_cases h2 : k = 3
  · simp only [h1, h2, if_true, if_false]; exact ⟨_, _, _, _, _, _, rfl, by decide, by decide, by decide, by decide, by decide, q [110, 105] (by decide), by decide, fun h9 => by first | rfl | (exfalso; omega), by simp⟩
  by_cases h3 : k = 4 ∨ k = 5 ∨ k = 11
  · simp only [h1, h2, h3, if_true, if_false]; exact ⟨_, _, _, _, _, _, rfl, by decide, by decide, by decide, by decide, by decide, q [110] (by decide), by decide, fun h9 => by first | rfl | (exfalso; omega), by simp⟩
  by_cases h4 : k = 6
  · simp only [h1, h2, h3, h4, if_true, if_false]; exact ⟨_, _, _, _, _, _, rfl, by decide, by decide, by decide, by decide, by decide, q [108] (by decide), by decide, fun h9 => by first | rfl | (exfalso; omega), by simp⟩
  by_cases h5 : k = 7 ∨ k = 8
  · simp only [h1, h2, h3, h4, h5, if_true, if_false]; exact ⟨_, _, _, _, _, _, rfl, by decide, by decide, by decide, by decide, by decide, q [] (by decide), by decide, fun h9 => by first | rfl | (exfalso; omega), by simp⟩
  by_cases h6 : k = 9
  · simp only [h1, h2, h3, h4, h5, h6, if_true, if_false]; exact ⟨_, _, _, _, _, _, rfl, by decide, by decide, by decide, by decide, by decide, q [105] (by decide), by decide, fun h9 => by first | rfl | (exfalso; omega), by simp⟩
  by_cases h7 : k = 10
  · simp only [h1, h2, h3, h4, h5, h6, h7, if_true, if_false]; exact ⟨_, _, _, _, _, _, rfl, by decide, by decide, by decide, by decide, by decide, q [105, 116] (by decide), by decide, fun h9 => by first | rfl | (exfalso; omega), by simp⟩
  · simp only [h1, h2, h3, h4, h5, h6, h7, if_false]; exact ⟨_, _, _, _, _, _, rfl, by decide, by decide, by decide, by decide, by decide, by simp, by decide, fun h9 => by first | rfl | (exfalso; omega), by simp⟩

/-- The document's tests of an act, as they are typed. -/
theorem form_ref (x : XAct) {f0 f1 f2 f3 f4 kn : Bool} (hF : fieldsD x.kind = ([f0, f1, f2, f3, f4], kn)) : x.form = (kn && (f0 || x.name.toList == ByteArray.toList { data := #[] }) && (f1 || ((x.by_.map bD).length : Int) == 0) && (f2 || x.num == 0) && (f3 || ((x.names.map sD).length : Int) == 0) && (f4 || ((x.tails.map iD).length : Int) == 0)) := by
  unfold XAct.form; rw [hF]

theorem ge1 (n : Nat) : decide ((n : Int) > 0) = !((n : Int) == 0) := by
  cases n with
  | zero => rfl
  | succ n => simp; omega

theorem has_v {s : ByteArray} {f : Int} {Qp : D → Store → Prop} {next : Env → Store → Prop} {dst : Option Nat} {env : Env} {σ : Store} (hs : s.size < 3) (h1 : next (eputo dst (.v (.bool (hasB s f))) env) σ) :
    VCall Try.prog Qp next dst env σ 20 [.v (.string s), .v (.int .u8 f)] := by
  refine ⟨_, Try.call20, (has_calls _ _ _ (by omega)).mono ?_⟩
  rintro r σ' ⟨rfl, rfl⟩
  exact h1

set_option maxRecDepth 100000 in
set_option maxHeartbeats 1600000 in
theorem wrong_calls (x : XAct) (hfit : x.Fits) (σ : Store) : ACalls Try.prog 10 [x.d] σ (fun e σ' => e = .ret (.v (.int .i64 x.wrong)) ∧ σ' = σ) := by
  refine ACalls.still ?_ σ
  refine ACalls.forget (R := fun e _ => e = .ret (.v (.int .i64 x.wrong))) ?_ fun e σ' h => ⟨[], SLe.nil _, h, rfl⟩
  have hlb : (x.by_.map bD).length = x.by_.length := List.length_map ..
  have hln : (x.names.map sD).length = x.names.length := List.length_map ..
  have hlt : (x.tails.map iD).length = x.tails.length := List.length_map ..
  unfold XAct.d
  refine ACalls.of_body Try.func10 rfl Try.ntmps10 (by simp) fun C hC => ?_
  have ret : ∀ k env σ n, eget 2 env = .v (.int .i64 n) → x.wrong = n → Goes C (.code .ret :: k) env σ := fun k env σ n h1 h2 => by
    refine Goes.ret hC Try.func10 (by simp [go_sem]) ?_
    simp only [go_sem, ↓reduceIte, reduceCtorEq, Nat.reduceEqDiff, Nat.reduceBEq, Int.reduceBEq, Int.reduceBNe, Nat.reduceLT, Nat.reduceLeDiff, Nat.reduceAdd, Nat.reduceSub, Nat.reduceMul, Int.reduceToNat, Int.reduceEq, Int.reduceLT, Int.reduceLE, h1, h2]
  obtain ⟨f0, f1, f2, f3, f4, kn, hF, b0, b1, b2, b3, b4, hq, hls, h9, hL⟩ := letters_has x.kind
  have hform := form_ref x hF
  have hf2 : (fieldsD x.kind).1.getD 2 false = f2 := by rw [hF]; rfl
  refine Goes.seq ?_
  refine Goes.region [0] fun K hK => ?_; simp (maxSteps := 4000000) only [go_sem, ↓reduceIte, reduceCtorEq, Nat.reduceEqDiff, Nat.reduceBEq, Int.reduceBEq, Int.reduceBNe, Nat.reduceLT, Nat.reduceLeDiff, Nat.reduceAdd, Nat.reduceSub, Nat.reduceMul, Int.reduceToNat, Int.reduceEq, Int.reduceLT, Int.reduceLE]
  intro x1
  have hx : sget x1 [(x1, AObj.arr 6 [D.agg [.v (.int .i64 x.kind), .v (.int .i64 x.num), .v (.string x.name), .slc (x.by_.map bD), .slc (x.names.map sD), .slc (x.tails.map iD)]])] = some (.arr 6 [D.agg [.v (.int .i64 x.kind), .v (.int .i64 x.num), .v (.string x.name), .slc (x.by_.map bD), .slc (x.names.map sD), .slc (x.tails.map iD)]]) := sget_self ..
  generalize [(x1, AObj.arr 6 [D.agg [.v (.int .i64 x.kind), .v (.int .i64 x.num), .v (.string x.name), .slc (x.by_.map bD), .slc (x.names.map sD), .slc (x.tails.map iD)]])] = σ at hx ⊢
  refine hK _ _ ?_; clear hK K
  refine Goes.seq ?_
  refine Goes.region [1, 2] fun K hK => ?_; simp (maxSteps := 4000000) only [go_sem, ↓reduceIte, reduceCtorEq, Nat.reduceEqDiff, Nat.reduceBEq, Int.reduceBEq, Int.reduceBNe, Nat.reduceLT, Nat.reduceLeDiff, Nat.reduceAdd, Nat.reduceSub, Nat.reduceMul, Int.reduceToNat, Int.reduceEq, Int.reduceLT, Int.reduceLE, hx]
  refine ⟨_, Try.call19, (letters_calls x.kind _).mono ?_⟩
  rintro e σ1 ⟨rfl, rfl⟩
  simp only [go_sem, ↓reduceIte, reduceCtorEq, Nat.reduceEqDiff, Nat.reduceBEq, Int.reduceBEq, Int.reduceBNe, Nat.reduceLT, Nat.reduceLeDiff, Nat.reduceAdd, Nat.reduceSub, Nat.reduceMul, Int.reduceToNat, Int.reduceEq, Int.reduceLT, Int.reduceLE]
  refine hK _ _ ?_; clear hK K
  have hw4 : x.form = false → x.wrong = 4 := fun h => by unfold XAct.wrong; rw [if_pos h]
  refine Goes.seq (Goes.join (fun env σ' => eget 1 env = .ptr x1 6 0 0 ∧ σ' = σ1 ∧ x.form = true) ?_ ?_)
  · intro k' hk'
    have h5 : x.form = true → ∀ env', eget 1 env' = .ptr x1 6 0 0 → Goes C k' env' σ1 := fun hf env' e1 => hk' env' σ1 ⟨e1, rfl, hf⟩
    clear hk' hf2 hF h9
    generalize lettersD x.kind = lt at b0 b1 b2 b3 b4 hq hls ⊢
    refine Goes.seq ?_
    rcases hL with h | h | h | h | h | h | h | h <;> simp only [Prod.mk.injEq] at h <;> obtain ⟨rfl, rfl, rfl, rfl, rfl, rfl⟩ := h
    all_goals
      refine Goes.region [1, 2, 3] fun K hK => ?_; simp (maxSteps := 4000000) only [go_sem, ↓reduceIte, reduceCtorEq, Nat.reduceEqDiff, Nat.reduceBEq, Int.reduceBEq, Int.reduceBNe, Nat.reduceLT, Nat.reduceLeDiff, Nat.reduceAdd, Nat.reduceSub, Nat.reduceMul, Int.reduceToNat, Int.reduceEq, Int.reduceLT, Int.reduceLE, hx, hq]
      repeat' (first | refine ite_intro (fun hc => ?_) (fun hc => ?_) | (refine has_v hls ?_; simp only [go_sem, ↓reduceIte, reduceCtorEq, Nat.reduceEqDiff, Nat.reduceBEq, Int.reduceBEq, Int.reduceBNe, Nat.reduceLT, Nat.reduceLeDiff, Nat.reduceAdd, Nat.reduceSub, Nat.reduceMul, Int.reduceToNat, Int.reduceEq, Int.reduceLT, Int.reduceLE, b0, b1, b2, b3, b4, hx]))
      all_goals
        refine hK _ _ (Goes.cond rfl (fun h => ?_) (fun h => ?_))
        · first
          | (simp at h; done)
          | (repeat' (first | refine Goes.seq ?_ | refine Goes.skip ?_ | refine Goes.inBlock ?_ | refine Goes.block ?_ | refine Goes.exit rfl ?_ | (refine Goes.region [1, 2] fun K hK => ?_; simp (maxSteps := 4000000) only [go_sem, ↓reduceIte, reduceCtorEq, Nat.reduceEqDiff, Nat.reduceBEq, Int.reduceBEq, Int.reduceBNe, Nat.reduceLT, Nat.reduceLeDiff, Nat.reduceAdd, Nat.reduceSub, Nat.reduceMul, Int.reduceToNat, Int.reduceEq, Int.reduceLT, Int.reduceLE]; refine hK _ _ ?_; clear hK K))
             refine ret _ _ _ _ rfl (hw4 ?_)
             rw [hform]
             try simp only [ge1] at *
             simp_all)
        · first
          | (simp at h; done)
          | (refine Goes.skip (h5 ?_ _ rfl)
             rw [hform]
             try simp only [ge1] at *
             simp_all)
  · rintro env σ' ⟨e1, rfl, hfm⟩
    have hrest : x.wrong = if (fieldsD x.kind).1.getD 2 false = true ∧ numOk (leastD x.kind) x.num = false then 1 else if x.tails.all (numOk 0) = false then 1 else 0 := by
      unfold XAct.wrong; rw [if_neg (by rw [hfm]; simp)]
    have hnum : (fieldsD x.kind).1.getD 2 false = false → numOk (leastD x.kind) x.num = true := fun h => by
      rw [hf2] at h
      have h0 : x.num = 0 := by
        rw [hform, h] at hfm
        simp at hfm
        exact hfm.1.1.2
      have : leastD x.kind = 0 := if_neg fun e => by rw [h9 e] at h; cases h
      rw [h0, this]; rfl
    clear hL hw4 hq hls b0 b1 b2 b3 b4
    refine Goes.seq ?_
    refine Goes.region [1] fun K hK => ?_; simp (maxSteps := 4000000) only [go_sem, ↓reduceIte, reduceCtorEq, Nat.reduceEqDiff, Nat.reduceBEq, Int.reduceBEq, Int.reduceBNe, Nat.reduceLT, Nat.reduceLeDiff, Nat.reduceAdd, Nat.reduceSub, Nat.reduceMul, Int.reduceToNat, Int.reduceEq, Int.reduceLT, Int.reduceLE, e1]
    refine hK _ _ ?_; clear hK K
    refine Goes.seq (Goes.join (fun env' σ'' => eget 1 env' = .ptr x1 6 0 0 ∧ eget 4 env' = .v (.int .i64 (leastD x.kind)) ∧ σ'' = σ') ?_ ?_)
    · intro k' hk'
      refine Goes.seq ?_
      refine Goes.region [1, 4] fun K hK => ?_; simp (maxSteps := 4000000) only [go_sem, ↓reduceIte, reduceCtorEq, Nat.reduceEqDiff, Nat.reduceBEq, Int.reduceBEq, Int.reduceBNe, Nat.reduceLT, Nat.reduceLeDiff, Nat.reduceAdd, Nat.reduceSub, Nat.reduceMul, Int.reduceToNat, Int.reduceEq, Int.reduceLT, Int.reduceLE, hx]
      refine hK _ _ (Goes.cond rfl (fun h => ?_) (fun h => ?_)); all_goals clear hK K
      · refine Goes.region [1] fun K hK => ?_; simp (maxSteps := 4000000) only [go_sem, ↓reduceIte, reduceCtorEq, Nat.reduceEqDiff, Nat.reduceBEq, Int.reduceBEq, Int.reduceBNe, Nat.reduceLT, Nat.reduceLeDiff, Nat.reduceAdd, Nat.reduceSub, Nat.reduceMul, Int.reduceToNat, Int.reduceEq, Int.reduceLT, Int.reduceLE]
        refine hK _ _ (hk' _ _ ⟨rfl, ?_, rfl⟩)
        rw [leastD, if_pos (by simpa using h)]; rfl
      · refine Goes.skip (hk' _ _ ⟨rfl, ?_, rfl⟩)
        rw [leastD, if_neg (by simpa using h)]; rfl
    rintro env' σ'' ⟨e1, e4, rfl⟩
    refine Goes.seq (Goes.join (fun env' σ3 => eget 1 env' = .ptr x1 6 0 0 ∧ σ3 = σ'' ∧ numOk (leastD x.kind) x.num = true) ?_ ?_)
    · intro k' hk'
      refine Goes.seq ?_
      refine Goes.region [1, 4] fun K hK => ?_; simp (maxSteps := 4000000) only [go_sem, ↓reduceIte, reduceCtorEq, Nat.reduceEqDiff, Nat.reduceBEq, Int.reduceBEq, Int.reduceBNe, Nat.reduceLT, Nat.reduceLeDiff, Nat.reduceAdd, Nat.reduceSub, Nat.reduceMul, Int.reduceToNat, Int.reduceEq, Int.reduceLT, Int.reduceLE, e1, e4, hx]
      have key : x.num < leastD x.kind ∨ x.num > 2147483647 → x.wrong = 1 := fun h => by
        have hno : numOk (leastD x.kind) x.num = false := by
          cases hb : numOk (leastD x.kind) x.num with
          | false => rfl
          | true => simp [numOk] at hb; omega
        have hfl : (fieldsD x.kind).1.getD 2 false = true := by
          cases hb : (fieldsD x.kind).1.getD 2 false with
          | true => rfl
          | false => rw [hnum hb] at hno; cases hno
        rw [hrest, if_pos ⟨hfl, hno⟩]
      refine ite_intro (fun hc => ?_) (fun hc => ?_)
      · refine hK _ _ (Goes.cond rfl (fun h => ?_) (fun h => ?_)); all_goals clear hK K
        · repeat' (first | refine Goes.seq ?_ | refine Goes.skip ?_ | refine Goes.inBlock ?_ | refine Goes.block ?_ | refine Goes.exit rfl ?_ | (refine Goes.region [1, 2] fun K hK => ?_; simp (maxSteps := 4000000) only [go_sem, ↓reduceIte, reduceCtorEq, Nat.reduceEqDiff, Nat.reduceBEq, Int.reduceBEq, Int.reduceBNe, Nat.reduceLT, Nat.reduceLeDiff, Nat.reduceAdd, Nat.reduceSub, Nat.reduceMul, Int.reduceToNat, Int.reduceEq, Int.reduceLT, Int.reduceLE]; refine hK _ _ ?_; clear hK K))
          refine ret _ _ _ _ rfl (key (.inr (by simpa using h)))
        · refine Goes.skip (hk' _ _ ⟨rfl, rfl, ?_⟩)
          simp [numOk] at hc h ⊢; omega
      · refine hK _ _ (Goes.cond rfl (fun h => ?_) (fun h => ?_)); all_goals clear hK K
        · repeat' (first | refine Goes.seq ?_ | refine Goes.skip ?_ | refine Goes.inBlock ?_ | refine Goes.block ?_ | refine Goes.exit rfl ?_ | (refine Goes.region [1, 2] fun K hK => ?_; simp (maxSteps := 4000000) only [go_sem, ↓reduceIte, reduceCtorEq, Nat.reduceEqDiff, Nat.reduceBEq, Int.reduceBEq, Int.reduceBNe, Nat.reduceLT, Nat.reduceLeDiff, Nat.reduceAdd, Nat.reduceSub, Nat.reduceMul, Int.reduceToNat, Int.reduceEq, Int.reduceLT, Int.reduceLE]; refine hK _ _ ?_; clear hK K))
          refine ret _ _ _ _ rfl (key (.inl (by simpa using hc)))
        · simp at h
    rintro env' σ3 ⟨e1, rfl, hno⟩
    have hrest2 : x.wrong = if x.tails.all (numOk 0) = false then 1 else 0 := by rw [hrest, if_neg (by rw [hno]; simp)]
    refine Goes.seq (Goes.join (fun env' σ4 => eget 1 env' = .ptr x1 6 0 0 ∧ σ4 = σ3 ∧ x.tails.all (numOk 0) = true) ?_ ?_)
    · intro k' hk'
      refine Goes.seq ?_
      refine Goes.region [1] fun K hK => ?_; simp (maxSteps := 4000000) only [go_sem, ↓reduceIte, reduceCtorEq, Nat.reduceEqDiff, Nat.reduceBEq, Int.reduceBEq, Int.reduceBNe, Nat.reduceLT, Nat.reduceLeDiff, Nat.reduceAdd, Nat.reduceSub, Nat.reduceMul, Int.reduceToNat, Int.reduceEq, Int.reduceLT, Int.reduceLE, e1]
      refine hK _ _ ?_; clear hK K
      refine Goes.rebase [1, 5] ?_
      simp only [go_sem, ↓reduceIte, reduceCtorEq, Nat.reduceEqDiff, Nat.reduceBEq, Int.reduceBEq, Int.reduceBNe, Nat.reduceLT, Nat.reduceLeDiff, Nat.reduceAdd, Nat.reduceSub, Nat.reduceMul, Int.reduceToNat, Int.reduceEq, Int.reduceLT, Int.reduceLE]
      refine Goes.block ?_
      refine Goes.while (fun (i : Nat) env' σ4 => i ≤ x.tails.length ∧ (x.tails.take i).all (numOk 0) = true ∧ env' = [(1, .ptr x1 6 0 0), (5, .v (.int .i64 (i : Int)))] ∧ σ4 = σ3) (fun i => x.tails.length - i) 0 ⟨by omega, rfl, rfl, rfl⟩ ?_
      rintro i env' σ4 ⟨hi, hall, rfl, rfl⟩ ih
      refine Goes.seq ?_
      refine Goes.seq ?_
      refine Goes.region [1, 5] fun K hK => ?_; simp (maxSteps := 4000000) only [go_sem, ↓reduceIte, reduceCtorEq, Nat.reduceEqDiff, Nat.reduceBEq, Int.reduceBEq, Int.reduceBNe, Nat.reduceLT, Nat.reduceLeDiff, Nat.reduceAdd, Nat.reduceSub, Nat.reduceMul, Int.reduceToNat, Int.reduceEq, Int.reduceLT, Int.reduceLE, hx]
      refine hK _ _ (Goes.cond rfl (fun h => ?_) (fun h => ?_)); all_goals clear hK K
      · have hlt2 : i < x.tails.length := by simpa [hlt] using h
        have hg := getD_map_lt iD x.tails i hlt2
        rw [iD] at hg
        have hi0 : (0 : Int) ≤ (i : Int) := by omega
        have hi1 : (i : Int) < ((x.tails.map iD).length : Int) := by omega
        have bad : numOk 0 x.tails[i] = false → x.wrong = 1 := fun h => by
          rw [hrest2, if_pos (List.all_eq_false.2 ⟨x.tails[i], List.getElem_mem hlt2, by rw [h]; simp⟩)]
        refine Goes.skip ?_
        refine Goes.seq ?_
        refine Goes.block ?_
        refine Goes.seq ?_
        refine Goes.region [1, 5] fun K hK => ?_; simp (maxSteps := 4000000) only [go_sem, ↓reduceIte, reduceCtorEq, Nat.reduceEqDiff, Nat.reduceBEq, Int.reduceBEq, Int.reduceBNe, Nat.reduceLT, Nat.reduceLeDiff, Nat.reduceAdd, Nat.reduceSub, Nat.reduceMul, Int.reduceToNat, Int.reduceEq, Int.reduceLT, Int.reduceLE, hx, hg, hi0, hi1]
        refine ite_intro (fun hc => ?_) (fun hc => ?_)
        · refine hK _ _ (Goes.cond rfl (fun h => ?_) (fun h => ?_)); all_goals clear hK K
          · repeat' (first | refine Goes.seq ?_ | refine Goes.skip ?_ | refine Goes.inBlock ?_ | refine Goes.block ?_ | refine Goes.exit rfl ?_ | (refine Goes.region [1, 2] fun K hK => ?_; simp (maxSteps := 4000000) only [go_sem, ↓reduceIte, reduceCtorEq, Nat.reduceEqDiff, Nat.reduceBEq, Int.reduceBEq, Int.reduceBNe, Nat.reduceLT, Nat.reduceLeDiff, Nat.reduceAdd, Nat.reduceSub, Nat.reduceMul, Int.reduceToNat, Int.reduceEq, Int.reduceLT, Int.reduceLE]; refine hK _ _ ?_; clear hK K))
            refine ret _ _ _ _ rfl (bad ?_)
            simp [numOk] at hc h ⊢; omega
          · refine Goes.skip ?_
            repeat' (first | refine Goes.seq ?_ | refine Goes.skip ?_ | refine Goes.inBlock ?_ | refine Goes.block ?_ | refine Goes.exit rfl ?_ | (refine Goes.region [1, 5] fun K hK => ?_; simp (maxSteps := 4000000) only [go_sem, ↓reduceIte, reduceCtorEq, Nat.reduceEqDiff, Nat.reduceBEq, Int.reduceBEq, Int.reduceBNe, Nat.reduceLT, Nat.reduceLeDiff, Nat.reduceAdd, Nat.reduceSub, Nat.reduceMul, Int.reduceToNat, Int.reduceEq, Int.reduceLT, Int.reduceLE]; refine hK _ _ ?_; clear hK K))
            refine Goes.rebase [1, 5] ?_
            simp only [go_sem, ↓reduceIte, reduceCtorEq, Nat.reduceEqDiff, Nat.reduceBEq, Int.reduceBEq, Int.reduceBNe, Nat.reduceLT, Nat.reduceLeDiff, Nat.reduceAdd, Nat.reduceSub, Nat.reduceMul, Int.reduceToNat, Int.reduceEq, Int.reduceLT, Int.reduceLE]
            rw [wrap_succ i (by have := hfit.tails; omega)]
            refine ih (i + 1) _ _ ⟨by omega, ?_, rfl, rfl⟩ (by omega)
            rw [List.take_succ_eq_append_getElem hlt2, List.all_append, hall]
            simp [numOk] at hc h ⊢; omega
        · refine hK _ _ (Goes.cond rfl (fun h => ?_) (fun h => ?_)); all_goals clear hK K
          · repeat' (first | refine Goes.seq ?_ | refine Goes.skip ?_ | refine Goes.inBlock ?_ | refine Goes.block ?_ | refine Goes.exit rfl ?_ | (refine Goes.region [1, 2] fun K hK => ?_; simp (maxSteps := 4000000) only [go_sem, ↓reduceIte, reduceCtorEq, Nat.reduceEqDiff, Nat.reduceBEq, Int.reduceBEq, Int.reduceBNe, Nat.reduceLT, Nat.reduceLeDiff, Nat.reduceAdd, Nat.reduceSub, Nat.reduceMul, Int.reduceToNat, Int.reduceEq, Int.reduceLT, Int.reduceLE]; refine hK _ _ ?_; clear hK K))
            refine ret _ _ _ _ rfl (bad ?_)
            simp [numOk] at hc h ⊢; omega
          · simp at h
      · have hge : ¬ i < x.tails.length := by simpa [hlt] using h
        have : i = x.tails.length := by omega
        rw [this, List.take_length] at hall
        repeat' (first | refine Goes.seq ?_ | refine Goes.skip ?_ | refine Goes.inBlock ?_ | refine Goes.block ?_ | refine Goes.exit rfl ?_ | (refine Goes.region [1] fun K hK => ?_; simp (maxSteps := 4000000) only [go_sem, ↓reduceIte, reduceCtorEq, Nat.reduceEqDiff, Nat.reduceBEq, Int.reduceBEq, Int.reduceBNe, Nat.reduceLT, Nat.reduceLeDiff, Nat.reduceAdd, Nat.reduceSub, Nat.reduceMul, Int.reduceToNat, Int.reduceEq, Int.reduceLT, Int.reduceLE]; refine hK _ _ ?_; clear hK K))
        exact hk' _ _ ⟨rfl, rfl, hall⟩
    rintro env' σ4 ⟨e1, rfl, htl⟩
    have hrest3 : x.wrong = 0 := by rw [hrest2, if_neg (by rw [htl]; simp)]
    have hl1 : decide ((x.name.size : Int) > 65535) = false := by have := hfit.name; simp; omega
    have hl2 : decide (((x.by_.map bD).length : Int) > 65535) = false := by have := hfit.by_; simp; omega
    refine Goes.seq ?_
    refine Goes.seq ?_
    refine Goes.region [1] fun K hK => ?_; simp (maxSteps := 4000000) only [go_sem, ↓reduceIte, reduceCtorEq, Nat.reduceEqDiff, Nat.reduceBEq, Int.reduceBEq, Int.reduceBNe, Nat.reduceLT, Nat.reduceLeDiff, Nat.reduceAdd, Nat.reduceSub, Nat.reduceMul, Int.reduceToNat, Int.reduceEq, Int.reduceLT, Int.reduceLE, e1, hx, hl1, hl2]
    refine hK _ _ (Goes.condF rfl (Goes.skip ?_)); clear hK K
    refine Goes.seq ?_
    refine Goes.seq ?_
    refine Goes.region [1] fun K hK => ?_; simp (maxSteps := 4000000) only [go_sem, ↓reduceIte, reduceCtorEq, Nat.reduceEqDiff, Nat.reduceBEq, Int.reduceBEq, Int.reduceBNe, Nat.reduceLT, Nat.reduceLeDiff, Nat.reduceAdd, Nat.reduceSub, Nat.reduceMul, Int.reduceToNat, Int.reduceEq, Int.reduceLT, Int.reduceLE]
    refine hK _ _ ?_; clear hK K
    refine Goes.rebase [1, 6] ?_
    simp only [go_sem, ↓reduceIte, reduceCtorEq, Nat.reduceEqDiff, Nat.reduceBEq, Int.reduceBEq, Int.reduceBNe, Nat.reduceLT, Nat.reduceLeDiff, Nat.reduceAdd, Nat.reduceSub, Nat.reduceMul, Int.reduceToNat, Int.reduceEq, Int.reduceLT, Int.reduceLE]
    refine Goes.block ?_
    refine Goes.while (fun (i : Nat) env' σ5 => i ≤ x.names.length ∧ env' = [(1, .ptr x1 6 0 0), (6, .v (.int .i64 (i : Int)))] ∧ σ5 = σ4) (fun i => x.names.length - i) 0 ⟨by omega, rfl, rfl⟩ ?_
    rintro i env' σ5 ⟨hi, rfl, rfl⟩ ih
    refine Goes.seq ?_
    refine Goes.seq ?_
    refine Goes.region [1, 6] fun K hK => ?_; simp (maxSteps := 4000000) only [go_sem, ↓reduceIte, reduceCtorEq, Nat.reduceEqDiff, Nat.reduceBEq, Int.reduceBEq, Int.reduceBNe, Nat.reduceLT, Nat.reduceLeDiff, Nat.reduceAdd, Nat.reduceSub, Nat.reduceMul, Int.reduceToNat, Int.reduceEq, Int.reduceLT, Int.reduceLE, hx]
    refine hK _ _ (Goes.cond rfl (fun h => ?_) (fun h => ?_)); all_goals clear hK K
    · have hlt2 : i < x.names.length := by simpa [hln] using h
      have hg := getD_map_lt sD x.names i hlt2
      rw [sD] at hg
      have hi0 : (0 : Int) ≤ (i : Int) := by omega
      have hi1 : (i : Int) < ((x.names.map sD).length : Int) := by omega
      have hl3 : decide ((x.names[i].size : Int) > 65535) = false := by have := hfit.names _ (List.getElem_mem hlt2); simp; omega
      refine Goes.skip ?_
      refine Goes.seq ?_
      refine Goes.block ?_
      refine Goes.seq ?_
      refine Goes.region [1, 6] fun K hK => ?_; simp (maxSteps := 4000000) only [go_sem, ↓reduceIte, reduceCtorEq, Nat.reduceEqDiff, Nat.reduceBEq, Int.reduceBEq, Int.reduceBNe, Nat.reduceLT, Nat.reduceLeDiff, Nat.reduceAdd, Nat.reduceSub, Nat.reduceMul, Int.reduceToNat, Int.reduceEq, Int.reduceLT, Int.reduceLE, hx, hg, hi0, hi1, hl3]
      refine hK _ _ (Goes.condF rfl (Goes.skip ?_)); clear hK K
      repeat' (first | refine Goes.seq ?_ | refine Goes.skip ?_ | refine Goes.inBlock ?_ | refine Goes.block ?_ | refine Goes.exit rfl ?_ | (refine Goes.region [1, 6] fun K hK => ?_; simp (maxSteps := 4000000) only [go_sem, ↓reduceIte, reduceCtorEq, Nat.reduceEqDiff, Nat.reduceBEq, Int.reduceBEq, Int.reduceBNe, Nat.reduceLT, Nat.reduceLeDiff, Nat.reduceAdd, Nat.reduceSub, Nat.reduceMul, Int.reduceToNat, Int.reduceEq, Int.reduceLT, Int.reduceLE]; refine hK _ _ ?_; clear hK K))
      refine Goes.rebase [1, 6] ?_
      simp only [go_sem, ↓reduceIte, reduceCtorEq, Nat.reduceEqDiff, Nat.reduceBEq, Int.reduceBEq, Int.reduceBNe, Nat.reduceLT, Nat.reduceLeDiff, Nat.reduceAdd, Nat.reduceSub, Nat.reduceMul, Int.reduceToNat, Int.reduceEq, Int.reduceLT, Int.reduceLE]
      rw [wrap_succ i (by have := hfit.many; omega)]
      exact ih (i + 1) _ _ ⟨by omega, rfl, rfl⟩ (by omega)
    · repeat' (first | refine Goes.seq ?_ | refine Goes.skip ?_ | refine Goes.inBlock ?_ | refine Goes.block ?_ | refine Goes.exit rfl ?_ | (refine Goes.region [1, 2] fun K hK => ?_; simp (maxSteps := 4000000) only [go_sem, ↓reduceIte, reduceCtorEq, Nat.reduceEqDiff, Nat.reduceBEq, Int.reduceBEq, Int.reduceBNe, Nat.reduceLT, Nat.reduceLeDiff, Nat.reduceAdd, Nat.reduceSub, Nat.reduceMul, Int.reduceToNat, Int.reduceEq, Int.reduceLT, Int.reduceLE]; refine hK _ _ ?_; clear hK K))
      exact ret _ _ _ _ rfl hrest3
end Go.Ab.S21
