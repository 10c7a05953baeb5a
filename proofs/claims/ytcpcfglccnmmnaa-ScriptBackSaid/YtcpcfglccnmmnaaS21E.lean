/- Layer 21: the document's bytes of an act. -/
import Derived.Test.YtcpcfglccnmmnaaS21D
set_option linter.unusedSimpArgs false
set_option linter.unusedVariables false
set_option linter.constructorNameAsVariable false
namespace Go.Ab.S21
open Go Go.Proofs


theorem le_mod (v : Nat) : le (v % 4294967296) 4 = le v 4 := by
  simp only [le, List.range_succ, List.range_zero, List.map_append, List.map_nil, List.map_cons, List.nil_append]
  congr 1
  · congr 1
    · congr 1
      · congr 2; omega
      · congr 2; omega
    · congr 2; omega
  · congr 2; omega

theorem n32_of (n : Int) : n32 n = le (n % 18446744073709551616).toNat 4 := by
  unfold n32
  rw [← le_mod (n % 18446744073709551616).toNat]
  congr 1
  omega

/-- The state of ref.Write: the letters, and the bytes so far. -/
structure Fr12 (x1 : Nat) (lt : ByteArray) (ρ : Store) (bs : List UInt8) (env : Env) (σ : Store) : Prop where
  e1 : eget 1 env = .ptr x1 6 0 0
  e3 : eget 3 env = .v (.string lt)
  ex : ∃ o, Gr o bs ρ ∧ eget 4 env = .own o 1 bs.length ∧ σ = cellsOf o 1 (bs.map bD) ++ ρ

theorem w_name {C : Ctx Try.prog ⟨106, []⟩} {x : XAct} (hfit : x.Fits) {f0 : Bool} {x1 : Nat} {lt : ByteArray} {ρ : Store} (hls : lt.size < 3) (b0 : hasB lt 110 = f0)
    (hx : sget x1 ρ = some (.arr 6 [D.agg [.v (.int .i64 x.kind), .v (.int .i64 x.num), .v (.string x.name), .slc (x.by_.map bD), .slc (x.names.map sD), .slc (x.tails.map iD)]]))
    (bs : List UInt8) (k' : List Item) (env : Env) (σ : Store) (hI : Fr12 x1 lt ρ bs env σ) (hl : bs.length < 2 ^ 40) (hk' : ∀ env σ, Fr12 x1 lt ρ (bs ++ opt f0 (tx x.name)) env σ → Goes C k' env σ) :
    Goes C (.code (bodyAt Try.f12 [1, 1, 1, 0]) :: k') env σ := by
  obtain ⟨e1, e3, o, hg, e4, rfl⟩ := hI
  have hx2 := hg.keep hx
  have ho := hg.oget
  have hd := hg.sdel
  have htk := take_map_bD bs
  refine Goes.seq ?_
  refine Goes.region [1, 3, 4] fun K hK => ?_; simp (maxSteps := 4000000) only [go_sem, ↓reduceIte, reduceCtorEq, Nat.reduceEqDiff, Nat.reduceBEq, Int.reduceBEq, Int.reduceBNe, Nat.reduceLT, Nat.reduceLeDiff, Nat.reduceAdd, Nat.reduceSub, Nat.reduceMul, Int.reduceToNat, Int.reduceEq, Int.reduceLT, Int.reduceLE, e1, e3, e4]
  refine has_v hls ?_
  simp only [go_sem, ↓reduceIte, reduceCtorEq, Nat.reduceEqDiff, Nat.reduceBEq, Int.reduceBEq, Int.reduceBNe, Nat.reduceLT, Nat.reduceLeDiff, Nat.reduceAdd, Nat.reduceSub, Nat.reduceMul, Int.reduceToNat, Int.reduceEq, Int.reduceLT, Int.reduceLE, b0]
  refine hK _ _ (Goes.cond rfl (fun h => ?_) (fun h => ?_)); all_goals clear hK K
  · refine Goes.seq ?_
    refine Goes.region [1, 3, 4] fun K hK => ?_; simp (maxSteps := 4000000) only [go_sem, ↓reduceIte, reduceCtorEq, Nat.reduceEqDiff, Nat.reduceBEq, Int.reduceBEq, Int.reduceBNe, Nat.reduceLT, Nat.reduceLeDiff, Nat.reduceAdd, Nat.reduceSub, Nat.reduceMul, Int.reduceToNat, Int.reduceEq, Int.reduceLT, Int.reduceLE, hx2]
    refine ⟨_, Try.call21, (refText_slc x.name _ (by have := hfit.name; omega)).mono ?_⟩
    rintro e σ2 ⟨rfl, rfl⟩
    simp only [go_sem, ↓reduceIte, reduceCtorEq, Nat.reduceEqDiff, Nat.reduceBEq, Int.reduceBEq, Int.reduceBNe, Nat.reduceLT, Nat.reduceLeDiff, Nat.reduceAdd, Nat.reduceSub, Nat.reduceMul, Int.reduceToNat, Int.reduceEq, Int.reduceLT, Int.reduceLE]
    refine hK _ _ ?_; clear hK K
    refine Goes.region [1, 3, 4, 5] fun K hK => ?_; simp (maxSteps := 4000000) only [go_sem, ↓reduceIte, reduceCtorEq, Nat.reduceEqDiff, Nat.reduceBEq, Int.reduceBEq, Int.reduceBNe, Nat.reduceLT, Nat.reduceLeDiff, Nat.reduceAdd, Nat.reduceSub, Nat.reduceMul, Int.reduceToNat, Int.reduceEq, Int.reduceLT, Int.reduceLE, ho, hd, htk]
    have hll := tx_len x.name hfit.name
    refine ⟨⟨by simp, plain_mapF bD 1 (fun _ => ⟨rfl, rfl⟩) _, by simp; omega, by simp; omega⟩, fun ob hz hf => hK _ _ (hk' _ _ ⟨rfl, rfl, ob, ?_, ?_, ?_⟩)⟩
    · rw [show opt f0 (tx x.name) = tx x.name from if_pos h]; exact hg.app hz hf
    · rw [show opt f0 (tx x.name) = tx x.name from if_pos h, ← List.map_append, List.length_map]; rfl
    · rw [show opt f0 (tx x.name) = tx x.name from if_pos h, List.map_append]
  · refine Goes.skip (hk' _ _ ⟨rfl, rfl, o, ?_⟩)
    rw [show opt f0 (tx x.name) = [] from if_neg (by rw [h]; simp), List.append_nil]
    exact ⟨hg, rfl, rfl⟩

theorem w_bytes {C : Ctx Try.prog ⟨106, []⟩} {x : XAct} (hfit : x.Fits) {f1 : Bool} {x1 : Nat} {lt : ByteArray} {ρ : Store} (hls : lt.size < 3) (b1 : hasB lt 98 = f1)
    (hx : sget x1 ρ = some (.arr 6 [D.agg [.v (.int .i64 x.kind), .v (.int .i64 x.num), .v (.string x.name), .slc (x.by_.map bD), .slc (x.names.map sD), .slc (x.tails.map iD)]]))
    (bs : List UInt8) (k' : List Item) (env : Env) (σ : Store) (hI : Fr12 x1 lt ρ bs env σ) (hl : bs.length < 2 ^ 40) (hk' : ∀ env σ, Fr12 x1 lt ρ (bs ++ opt f1 (tx ⟨x.by_.toArray⟩)) env σ → Goes C k' env σ) :
    Goes C (.code (bodyAt Try.f12 [1, 1, 1, 1, 0]) :: k') env σ := by
  obtain ⟨e1, e3, o, hg, e4, rfl⟩ := hI
  have hx2 := hg.keep hx
  have ho := hg.oget
  have hd := hg.sdel
  have htk := take_map_bD bs
  refine Goes.seq ?_
  refine Goes.region [1, 3, 4] fun K hK => ?_; simp (maxSteps := 4000000) only [go_sem, ↓reduceIte, reduceCtorEq, Nat.reduceEqDiff, Nat.reduceBEq, Int.reduceBEq, Int.reduceBNe, Nat.reduceLT, Nat.reduceLeDiff, Nat.reduceAdd, Nat.reduceSub, Nat.reduceMul, Int.reduceToNat, Int.reduceEq, Int.reduceLT, Int.reduceLE, e1, e3, e4]
  refine has_v hls ?_
  simp only [go_sem, ↓reduceIte, reduceCtorEq, Nat.reduceEqDiff, Nat.reduceBEq, Int.reduceBEq, Int.reduceBNe, Nat.reduceLT, Nat.reduceLeDiff, Nat.reduceAdd, Nat.reduceSub, Nat.reduceMul, Int.reduceToNat, Int.reduceEq, Int.reduceLT, Int.reduceLE, b1]
  refine hK _ _ (Goes.cond rfl (fun h => ?_) (fun h => ?_)); all_goals clear hK K
  · refine Goes.seq ?_
    have hab := allByte_bD x.by_
    have hbo := bytesOf_bD x.by_
    refine Goes.region [1, 3, 4] fun K hK => ?_; simp (maxSteps := 4000000) only [go_sem, ↓reduceIte, reduceCtorEq, Nat.reduceEqDiff, Nat.reduceBEq, Int.reduceBEq, Int.reduceBNe, Nat.reduceLT, Nat.reduceLeDiff, Nat.reduceAdd, Nat.reduceSub, Nat.reduceMul, Int.reduceToNat, Int.reduceEq, Int.reduceLT, Int.reduceLE, hx2, hab, hbo]
    refine ⟨_, Try.call21, (refText_slc ⟨x.by_.toArray⟩ _ (by rw [size_mk]; have := hfit.by_; omega)).mono ?_⟩
    rintro e σ2 ⟨rfl, rfl⟩
    simp only [go_sem, ↓reduceIte, reduceCtorEq, Nat.reduceEqDiff, Nat.reduceBEq, Int.reduceBEq, Int.reduceBNe, Nat.reduceLT, Nat.reduceLeDiff, Nat.reduceAdd, Nat.reduceSub, Nat.reduceMul, Int.reduceToNat, Int.reduceEq, Int.reduceLT, Int.reduceLE]
    refine hK _ _ ?_; clear hK K
    refine Goes.region [1, 3, 4, 7] fun K hK => ?_; simp (maxSteps := 4000000) only [go_sem, ↓reduceIte, reduceCtorEq, Nat.reduceEqDiff, Nat.reduceBEq, Int.reduceBEq, Int.reduceBNe, Nat.reduceLT, Nat.reduceLeDiff, Nat.reduceAdd, Nat.reduceSub, Nat.reduceMul, Int.reduceToNat, Int.reduceEq, Int.reduceLT, Int.reduceLE, ho, hd, htk]
    have hll := tx_len ⟨x.by_.toArray⟩ (by rw [size_mk]; exact hfit.by_)
    refine ⟨⟨by simp, plain_mapF bD 1 (fun _ => ⟨rfl, rfl⟩) _, by simp; omega, by simp; omega⟩, fun ob hz hf => hK _ _ (hk' _ _ ⟨rfl, rfl, ob, ?_, ?_, ?_⟩)⟩
    · rw [show opt f1 (tx ⟨x.by_.toArray⟩) = tx ⟨x.by_.toArray⟩ from if_pos h]; exact hg.app hz hf
    · rw [show opt f1 (tx ⟨x.by_.toArray⟩) = tx ⟨x.by_.toArray⟩ from if_pos h, ← List.map_append, List.length_map]; rfl
    · rw [show opt f1 (tx ⟨x.by_.toArray⟩) = tx ⟨x.by_.toArray⟩ from if_pos h, List.map_append]
  · refine Goes.skip (hk' _ _ ⟨rfl, rfl, o, ?_⟩)
    rw [show opt f1 (tx ⟨x.by_.toArray⟩) = [] from if_neg (by rw [h]; simp), List.append_nil]
    exact ⟨hg, rfl, rfl⟩


theorem w_num {C : Ctx Try.prog ⟨106, []⟩} {x : XAct} (hfit : x.Fits) {f2 : Bool} {x1 : Nat} {lt : ByteArray} {ρ : Store} (hls : lt.size < 3) (b2 : hasB lt 105 = f2)
    (hx : sget x1 ρ = some (.arr 6 [D.agg [.v (.int .i64 x.kind), .v (.int .i64 x.num), .v (.string x.name), .slc (x.by_.map bD), .slc (x.names.map sD), .slc (x.tails.map iD)]]))
    (bs : List UInt8) (k' : List Item) (env : Env) (σ : Store) (hI : Fr12 x1 lt ρ bs env σ) (hl : bs.length < 2 ^ 40) (hk' : ∀ env σ, Fr12 x1 lt ρ (bs ++ opt f2 (n32 x.num)) env σ → Goes C k' env σ) :
    Goes C (.code (bodyAt Try.f12 [1, 1, 1, 1, 1, 0]) :: k') env σ := by
  obtain ⟨e1, e3, o, hg, e4, rfl⟩ := hI
  have hx2 := hg.keep hx
  have ho := hg.oget
  have hd := hg.sdel
  have htk := take_map_bD bs
  refine Goes.seq ?_
  refine Goes.region [1, 3, 4] fun K hK => ?_; simp (maxSteps := 4000000) only [go_sem, ↓reduceIte, reduceCtorEq, Nat.reduceEqDiff, Nat.reduceBEq, Int.reduceBEq, Int.reduceBNe, Nat.reduceLT, Nat.reduceLeDiff, Nat.reduceAdd, Nat.reduceSub, Nat.reduceMul, Int.reduceToNat, Int.reduceEq, Int.reduceLT, Int.reduceLE, e1, e3, e4]
  refine has_v hls ?_
  simp only [go_sem, ↓reduceIte, reduceCtorEq, Nat.reduceEqDiff, Nat.reduceBEq, Int.reduceBEq, Int.reduceBNe, Nat.reduceLT, Nat.reduceLeDiff, Nat.reduceAdd, Nat.reduceSub, Nat.reduceMul, Int.reduceToNat, Int.reduceEq, Int.reduceLT, Int.reduceLE, b2]
  refine hK _ _ (Goes.cond rfl (fun h => ?_) (fun h => ?_)); all_goals clear hK K
  · have hnw : IntKind.u64.wrap (IntKind.u32.wrap x.num) = (((x.num % 4294967296).toNat : Nat) : Int) := by simp [IntKind.wrap, IntKind.bits, IntKind.signed]; omega
    refine Goes.region [1, 3, 4] fun K hK => ?_; simp (maxSteps := 4000000) only [go_sem, ↓reduceIte, reduceCtorEq, Nat.reduceEqDiff, Nat.reduceBEq, Int.reduceBEq, Int.reduceBNe, Nat.reduceLT, Nat.reduceLeDiff, Nat.reduceAdd, Nat.reduceSub, Nat.reduceMul, Int.reduceToNat, Int.reduceEq, Int.reduceLT, Int.reduceLE, hx2, hnw]
    refine ⟨_, Try.call22, (refNumber_slc (x.num % 4294967296).toNat 4 _ (by omega) (by omega) (by omega)).mono ?_⟩
    rintro e σ2 ⟨rfl, rfl⟩
    simp only [go_sem, ↓reduceIte, reduceCtorEq, Nat.reduceEqDiff, Nat.reduceBEq, Int.reduceBEq, Int.reduceBNe, Nat.reduceLT, Nat.reduceLeDiff, Nat.reduceAdd, Nat.reduceSub, Nat.reduceMul, Int.reduceToNat, Int.reduceEq, Int.reduceLT, Int.reduceLE, ho, hd, htk]
    have hll := n32_len x.num
    unfold n32 at hll
    refine ⟨⟨by simp, plain_mapF bD 1 (fun _ => ⟨rfl, rfl⟩) _, by simp; omega, by simp; omega⟩, fun ob hz hf => hK _ _ (hk' _ _ ⟨rfl, rfl, ob, ?_, ?_, ?_⟩)⟩
    · rw [show opt f2 (n32 x.num) = n32 x.num from if_pos h]; exact hg.app hz hf
    · rw [show opt f2 (n32 x.num) = n32 x.num from if_pos h, ← List.map_append, List.length_map]; rfl
    · rw [show opt f2 (n32 x.num) = n32 x.num from if_pos h, List.map_append]; rfl
  · refine Goes.skip (hk' _ _ ⟨rfl, rfl, o, ?_⟩)
    rw [show opt f2 (n32 x.num) = [] from if_neg (by rw [h]; simp), List.append_nil]
    exact ⟨hg, rfl, rfl⟩


theorem w_names {C : Ctx Try.prog ⟨106, []⟩} {x : XAct} (hfit : x.Fits) {f3 : Bool} {x1 : Nat} {lt : ByteArray} {ρ : Store} (hls : lt.size < 3) (b3 : hasB lt 108 = f3)
    (hx : sget x1 ρ = some (.arr 6 [D.agg [.v (.int .i64 x.kind), .v (.int .i64 x.num), .v (.string x.name), .slc (x.by_.map bD), .slc (x.names.map sD), .slc (x.tails.map iD)]]))
    (bs : List UInt8) (k' : List Item) (env : Env) (σ : Store) (hI : Fr12 x1 lt ρ bs env σ) (hl : bs.length < 2 ^ 40) (hk' : ∀ env σ, Fr12 x1 lt ρ (bs ++ opt f3 (n32 x.names.length ++ x.names.flatMap tx)) env σ → Goes C k' env σ) :
    Goes C (.code (bodyAt Try.f12 [1, 1, 1, 1, 1, 1, 0]) :: k') env σ := by
  obtain ⟨e1, e3, o, hg, e4, rfl⟩ := hI
  have hx2 := hg.keep hx
  have ho := hg.oget
  have hd := hg.sdel
  have htk := take_map_bD bs
  refine Goes.seq ?_
  refine Goes.region [1, 3, 4] fun K hK => ?_; simp (maxSteps := 4000000) only [go_sem, ↓reduceIte, reduceCtorEq, Nat.reduceEqDiff, Nat.reduceBEq, Int.reduceBEq, Int.reduceBNe, Nat.reduceLT, Nat.reduceLeDiff, Nat.reduceAdd, Nat.reduceSub, Nat.reduceMul, Int.reduceToNat, Int.reduceEq, Int.reduceLT, Int.reduceLE, e1, e3, e4]
  refine has_v hls ?_
  simp only [go_sem, ↓reduceIte, reduceCtorEq, Nat.reduceEqDiff, Nat.reduceBEq, Int.reduceBEq, Int.reduceBNe, Nat.reduceLT, Nat.reduceLeDiff, Nat.reduceAdd, Nat.reduceSub, Nat.reduceMul, Int.reduceToNat, Int.reduceEq, Int.reduceLT, Int.reduceLE, b3]
  refine hK _ _ (Goes.cond rfl (fun h => ?_) (fun h => ?_)); all_goals clear hK K
  · have hm := hfit.many
    have hnl : (x.names.map sD).length = x.names.length := List.length_map ..
    have hnw : IntKind.u64.wrap ((x.names.map sD).length : Int) = ((x.names.length : Nat) : Int) := by rw [hnl]; simp [IntKind.wrap, IntKind.bits, IntKind.signed]; omega
    have h32 : le x.names.length 4 = n32 (x.names.length : Int) := by unfold n32; congr 1; omega
    refine Goes.seq ?_
    refine Goes.region [1, 3, 4] fun K hK => ?_; simp (maxSteps := 4000000) only [go_sem, ↓reduceIte, reduceCtorEq, Nat.reduceEqDiff, Nat.reduceBEq, Int.reduceBEq, Int.reduceBNe, Nat.reduceLT, Nat.reduceLeDiff, Nat.reduceAdd, Nat.reduceSub, Nat.reduceMul, Int.reduceToNat, Int.reduceEq, Int.reduceLT, Int.reduceLE, hx2, hnw]
    refine ⟨_, Try.call22, (refNumber_slc x.names.length 4 _ (by omega) (by omega) (by omega)).mono ?_⟩
    rintro e σ2 ⟨rfl, rfl⟩
    simp only [go_sem, ↓reduceIte, reduceCtorEq, Nat.reduceEqDiff, Nat.reduceBEq, Int.reduceBEq, Int.reduceBNe, Nat.reduceLT, Nat.reduceLeDiff, Nat.reduceAdd, Nat.reduceSub, Nat.reduceMul, Int.reduceToNat, Int.reduceEq, Int.reduceLT, Int.reduceLE, ho, hd, htk]
    have hll := n32_len (x.names.length : Int)
    rw [h32]
    refine ⟨⟨by simp, plain_mapF bD 1 (fun _ => ⟨rfl, rfl⟩) _, by simp; omega, by simp; omega⟩, fun ob hz hf => hK _ _ ?_⟩; clear hK K
    have hg2 := hg.app hz hf
    clear hz hf ho hd htk hx2
    refine Goes.seq ?_
    refine Goes.region [1, 3, 4] fun K hK => ?_; simp (maxSteps := 4000000) only [go_sem, ↓reduceIte, reduceCtorEq, Nat.reduceEqDiff, Nat.reduceBEq, Int.reduceBEq, Int.reduceBNe, Nat.reduceLT, Nat.reduceLeDiff, Nat.reduceAdd, Nat.reduceSub, Nat.reduceMul, Int.reduceToNat, Int.reduceEq, Int.reduceLT, Int.reduceLE]
    refine hK _ _ ?_; clear hK K
    refine Goes.rebase [1, 3, 4, 9] ?_
    simp only [go_sem, ↓reduceIte, reduceCtorEq, Nat.reduceEqDiff, Nat.reduceBEq, Int.reduceBEq, Int.reduceBNe, Nat.reduceLT, Nat.reduceLeDiff, Nat.reduceAdd, Nat.reduceSub, Nat.reduceMul, Int.reduceToNat, Int.reduceEq, Int.reduceLT, Int.reduceLE]
    refine Goes.block ?_
    refine Goes.while (fun (i : Nat) env' σ' => i ≤ x.names.length ∧ ∃ o, Gr o (bs ++ (n32 x.names.length ++ (x.names.take i).flatMap tx)) ρ ∧ env' = [(1, .ptr x1 6 0 0), (3, .v (.string lt)), (4, .own o 1 (bs ++ (n32 x.names.length ++ (x.names.take i).flatMap tx)).length), (9, .v (.int .i64 (i : Int)))] ∧ σ' = cellsOf o 1 ((bs ++ (n32 x.names.length ++ (x.names.take i).flatMap tx)).map bD) ++ ρ) (fun i => x.names.length - i) 0
      ⟨by omega, ob, by simpa using hg2, by simp, by simp⟩ ?_
    clear hg2 hg
    rintro i env' σ' ⟨hi, o, hg, rfl, rfl⟩ ih
    have hx2 := hg.keep hx
    have ho := hg.oget
    have hd := hg.sdel
    have htk := take_map_bD (bs ++ (n32 x.names.length ++ (x.names.take i).flatMap tx))
    have hbl : (bs ++ (n32 x.names.length ++ (x.names.take i).flatMap tx)).length < 2 ^ 40 + 2 ^ 38 := by
      have hlf := flatMap_length_le tx 65537 (x.names.take i) fun s hs => tx_len s (hfit.names s (List.mem_of_mem_take hs))
      have hlt2 : (x.names.take i).length ≤ 2 ^ 20 := by simp; omega
      have : (x.names.take i).length * 65537 ≤ 2 ^ 20 * 65537 := Nat.mul_le_mul_right _ hlt2
      simp only [List.length_append, n32_len]; omega
    generalize hbs : bs ++ (n32 x.names.length ++ (x.names.take i).flatMap tx) = bi at *
    repeat' (first | refine Goes.seq ?_ | refine Goes.skip ?_ | refine Goes.inBlock ?_ | refine Goes.block ?_ | refine Goes.exit rfl ?_ | (refine Goes.region [1, 3, 4, 9] fun K hK => ?_; simp (maxSteps := 4000000) only [go_sem, ↓reduceIte, reduceCtorEq, Nat.reduceEqDiff, Nat.reduceBEq, Int.reduceBEq, Int.reduceBNe, Nat.reduceLT, Nat.reduceLeDiff, Nat.reduceAdd, Nat.reduceSub, Nat.reduceMul, Int.reduceToNat, Int.reduceEq, Int.reduceLT, Int.reduceLE, hx2]; refine hK _ _ ?_; clear hK K))
    refine Goes.cond rfl (fun h2 => ?_) (fun h2 => ?_)
    · have hlt2 : i < x.names.length := by simpa [hnl] using h2
      have hg3 := getD_map_lt sD x.names i hlt2
      rw [sD] at hg3
      have hi0 : (0 : Int) ≤ (i : Int) := by omega
      have hi1 : (i : Int) < ((x.names.map sD).length : Int) := by omega
      have hsz := hfit.names _ (List.getElem_mem hlt2)
      refine Goes.skip ?_
      refine Goes.seq ?_
      refine Goes.block ?_
      refine Goes.seq ?_
      refine Goes.region [1, 3, 4, 9] fun K hK => ?_; simp (maxSteps := 4000000) only [go_sem, ↓reduceIte, reduceCtorEq, Nat.reduceEqDiff, Nat.reduceBEq, Int.reduceBEq, Int.reduceBNe, Nat.reduceLT, Nat.reduceLeDiff, Nat.reduceAdd, Nat.reduceSub, Nat.reduceMul, Int.reduceToNat, Int.reduceEq, Int.reduceLT, Int.reduceLE, hx2, hg3, hi0, hi1]
      refine ⟨_, Try.call21, (refText_slc x.names[i] _ (by omega)).mono ?_⟩
      rintro e σ2 ⟨rfl, rfl⟩
      simp only [go_sem, ↓reduceIte, reduceCtorEq, Nat.reduceEqDiff, Nat.reduceBEq, Int.reduceBEq, Int.reduceBNe, Nat.reduceLT, Nat.reduceLeDiff, Nat.reduceAdd, Nat.reduceSub, Nat.reduceMul, Int.reduceToNat, Int.reduceEq, Int.reduceLT, Int.reduceLE]
      refine hK _ _ ?_; clear hK K
      refine Goes.region [1, 3, 4, 9, 10] fun K hK => ?_; simp (maxSteps := 4000000) only [go_sem, ↓reduceIte, reduceCtorEq, Nat.reduceEqDiff, Nat.reduceBEq, Int.reduceBEq, Int.reduceBNe, Nat.reduceLT, Nat.reduceLeDiff, Nat.reduceAdd, Nat.reduceSub, Nat.reduceMul, Int.reduceToNat, Int.reduceEq, Int.reduceLT, Int.reduceLE, ho, hd, htk]
      have hl4 := tx_len x.names[i] hsz
      refine ⟨⟨by simp, plain_mapF bD 1 (fun _ => ⟨rfl, rfl⟩) _, by simp; omega, by simp; omega⟩, fun ob hz hf => hK _ _ ?_⟩; clear hK K
      have hg4 := hg.app hz hf
      repeat' (first | refine Goes.seq ?_ | refine Goes.skip ?_ | refine Goes.inBlock ?_ | refine Goes.block ?_ | refine Goes.exit rfl ?_ | (refine Goes.region [1, 3, 4, 9] fun K hK => ?_; simp (maxSteps := 4000000) only [go_sem, ↓reduceIte, reduceCtorEq, Nat.reduceEqDiff, Nat.reduceBEq, Int.reduceBEq, Int.reduceBNe, Nat.reduceLT, Nat.reduceLeDiff, Nat.reduceAdd, Nat.reduceSub, Nat.reduceMul, Int.reduceToNat, Int.reduceEq, Int.reduceLT, Int.reduceLE]; refine hK _ _ ?_; clear hK K))
      refine Goes.rebase [1, 3, 4, 9] ?_
      simp only [go_sem, ↓reduceIte, reduceCtorEq, Nat.reduceEqDiff, Nat.reduceBEq, Int.reduceBEq, Int.reduceBNe, Nat.reduceLT, Nat.reduceLeDiff, Nat.reduceAdd, Nat.reduceSub, Nat.reduceMul, Int.reduceToNat, Int.reduceEq, Int.reduceLT, Int.reduceLE]
      rw [wrap_succ i (by omega)]
      have hx3 : bs ++ (n32 x.names.length ++ (x.names.take (i + 1)).flatMap tx) = bi ++ tx x.names[i] := by
        rw [take_succ_flatMap tx x.names i hlt2, ← hbs]; simp only [List.append_assoc]
      refine ih (i + 1) _ _ ⟨by omega, ob, by rw [hx3]; exact hg4, by rw [hx3]; simp, by rw [hx3]; simp⟩ (by omega)
    · have hge : ¬ i < x.names.length := by simpa [hnl] using h2
      have : i = x.names.length := by omega
      rw [this, List.take_length] at hbs
      repeat' (first | refine Goes.seq ?_ | refine Goes.skip ?_ | refine Goes.inBlock ?_ | refine Goes.block ?_ | refine Goes.exit rfl ?_ | (refine Goes.region [1, 3, 4] fun K hK => ?_; simp (maxSteps := 4000000) only [go_sem, ↓reduceIte, reduceCtorEq, Nat.reduceEqDiff, Nat.reduceBEq, Int.reduceBEq, Int.reduceBNe, Nat.reduceLT, Nat.reduceLeDiff, Nat.reduceAdd, Nat.reduceSub, Nat.reduceMul, Int.reduceToNat, Int.reduceEq, Int.reduceLT, Int.reduceLE]; refine hK _ _ ?_; clear hK K))
      refine hk' _ _ ⟨rfl, rfl, o, ?_⟩
      rw [show opt f3 (n32 x.names.length ++ x.names.flatMap tx) = n32 x.names.length ++ x.names.flatMap tx from if_pos h, hbs]
      exact ⟨hg, rfl, rfl⟩
  · refine Goes.skip (hk' _ _ ⟨rfl, rfl, o, ?_⟩)
    rw [show opt f3 (n32 x.names.length ++ x.names.flatMap tx) = [] from if_neg (by rw [h]; simp), List.append_nil]
    exact ⟨hg, rfl, rfl⟩


theorem w_tails {C : Ctx Try.prog ⟨106, []⟩} {x : XAct} (hfit : x.Fits) {f4 : Bool} {x1 : Nat} {lt : ByteArray} {ρ : Store} (hls : lt.size < 3) (b4 : hasB lt 116 = f4)
    (hx : sget x1 ρ = some (.arr 6 [D.agg [.v (.int .i64 x.kind), .v (.int .i64 x.num), .v (.string x.name), .slc (x.by_.map bD), .slc (x.names.map sD), .slc (x.tails.map iD)]]))
    (bs : List UInt8) (k' : List Item) (env : Env) (σ : Store) (hI : Fr12 x1 lt ρ bs env σ) (hl : bs.length < 2 ^ 40 + 2 ^ 39) (hk' : ∀ env σ, Fr12 x1 lt ρ (bs ++ opt f4 (n32 x.tails.length ++ x.tails.flatMap n32)) env σ → Goes C k' env σ) :
    Goes C (.code (bodyAt Try.f12 [1, 1, 1, 1, 1, 1, 1, 0]) :: k') env σ := by
  obtain ⟨e1, e3, o, hg, e4, rfl⟩ := hI
  have hx2 := hg.keep hx
  have ho := hg.oget
  have hd := hg.sdel
  have htk := take_map_bD bs
  refine Goes.seq ?_
  refine Goes.region [1, 3, 4] fun K hK => ?_; simp (maxSteps := 4000000) only [go_sem, ↓reduceIte, reduceCtorEq, Nat.reduceEqDiff, Nat.reduceBEq, Int.reduceBEq, Int.reduceBNe, Nat.reduceLT, Nat.reduceLeDiff, Nat.reduceAdd, Nat.reduceSub, Nat.reduceMul, Int.reduceToNat, Int.reduceEq, Int.reduceLT, Int.reduceLE, e1, e3, e4]
  refine has_v hls ?_
  simp only [go_sem, ↓reduceIte, reduceCtorEq, Nat.reduceEqDiff, Nat.reduceBEq, Int.reduceBEq, Int.reduceBNe, Nat.reduceLT, Nat.reduceLeDiff, Nat.reduceAdd, Nat.reduceSub, Nat.reduceMul, Int.reduceToNat, Int.reduceEq, Int.reduceLT, Int.reduceLE, b4]
  refine hK _ _ (Goes.cond rfl (fun h => ?_) (fun h => ?_)); all_goals clear hK K
  · have hm := hfit.tails
    have hnl : (x.tails.map iD).length = x.tails.length := List.length_map ..
    have hnw : IntKind.u64.wrap ((x.tails.map iD).length : Int) = ((x.tails.length : Nat) : Int) := by rw [hnl]; simp [IntKind.wrap, IntKind.bits, IntKind.signed]; omega
    have h32 : le x.tails.length 4 = n32 (x.tails.length : Int) := by unfold n32; congr 1; omega
    refine Goes.seq ?_
    refine Goes.region [1, 3, 4] fun K hK => ?_; simp (maxSteps := 4000000) only [go_sem, ↓reduceIte, reduceCtorEq, Nat.reduceEqDiff, Nat.reduceBEq, Int.reduceBEq, Int.reduceBNe, Nat.reduceLT, Nat.reduceLeDiff, Nat.reduceAdd, Nat.reduceSub, Nat.reduceMul, Int.reduceToNat, Int.reduceEq, Int.reduceLT, Int.reduceLE, hx2, hnw]
    refine ⟨_, Try.call22, (refNumber_slc x.tails.length 4 _ (by omega) (by omega) (by omega)).mono ?_⟩
    rintro e σ2 ⟨rfl, rfl⟩
    simp only [go_sem, ↓reduceIte, reduceCtorEq, Nat.reduceEqDiff, Nat.reduceBEq, Int.reduceBEq, Int.reduceBNe, Nat.reduceLT, Nat.reduceLeDiff, Nat.reduceAdd, Nat.reduceSub, Nat.reduceMul, Int.reduceToNat, Int.reduceEq, Int.reduceLT, Int.reduceLE, ho, hd, htk]
    have hll := n32_len (x.tails.length : Int)
    rw [h32]
    refine ⟨⟨by simp, plain_mapF bD 1 (fun _ => ⟨rfl, rfl⟩) _, by simp; omega, by simp; omega⟩, fun ob hz hf => hK _ _ ?_⟩; clear hK K
    have hg2 := hg.app hz hf
    clear hz hf ho hd htk hx2
    refine Goes.seq ?_
    refine Goes.region [1, 3, 4] fun K hK => ?_; simp (maxSteps := 4000000) only [go_sem, ↓reduceIte, reduceCtorEq, Nat.reduceEqDiff, Nat.reduceBEq, Int.reduceBEq, Int.reduceBNe, Nat.reduceLT, Nat.reduceLeDiff, Nat.reduceAdd, Nat.reduceSub, Nat.reduceMul, Int.reduceToNat, Int.reduceEq, Int.reduceLT, Int.reduceLE]
    refine hK _ _ ?_; clear hK K
    refine Goes.rebase [1, 3, 4, 12] ?_
    simp only [go_sem, ↓reduceIte, reduceCtorEq, Nat.reduceEqDiff, Nat.reduceBEq, Int.reduceBEq, Int.reduceBNe, Nat.reduceLT, Nat.reduceLeDiff, Nat.reduceAdd, Nat.reduceSub, Nat.reduceMul, Int.reduceToNat, Int.reduceEq, Int.reduceLT, Int.reduceLE]
    refine Goes.block ?_
    refine Goes.while (fun (i : Nat) env' σ' => i ≤ x.tails.length ∧ ∃ o, Gr o (bs ++ (n32 x.tails.length ++ (x.tails.take i).flatMap n32)) ρ ∧ env' = [(1, .ptr x1 6 0 0), (3, .v (.string lt)), (4, .own o 1 (bs ++ (n32 x.tails.length ++ (x.tails.take i).flatMap n32)).length), (12, .v (.int .i64 (i : Int)))] ∧ σ' = cellsOf o 1 ((bs ++ (n32 x.tails.length ++ (x.tails.take i).flatMap n32)).map bD) ++ ρ) (fun i => x.tails.length - i) 0
      ⟨by omega, ob, by simpa using hg2, by simp, by simp⟩ ?_
    clear hg2 hg
    rintro i env' σ' ⟨hi, o, hg, rfl, rfl⟩ ih
    have hx2 := hg.keep hx
    have ho := hg.oget
    have hd := hg.sdel
    have htk := take_map_bD (bs ++ (n32 x.tails.length ++ (x.tails.take i).flatMap n32))
    have hbl : (bs ++ (n32 x.tails.length ++ (x.tails.take i).flatMap n32)).length < 2 ^ 40 + 2 ^ 39 + 2 ^ 30 := by
      have hlf := flatMap_length_le n32 4 (x.tails.take i) fun s _ => by rw [n32_len]; exact Nat.le_refl _
      have hlt2 : (x.tails.take i).length ≤ 2 ^ 20 := by simp; omega
      have : (x.tails.take i).length * 4 ≤ 2 ^ 20 * 4 := Nat.mul_le_mul_right _ hlt2
      simp only [List.length_append, n32_len]; omega
    generalize hbs : bs ++ (n32 x.tails.length ++ (x.tails.take i).flatMap n32) = bi at *
    repeat' (first | refine Goes.seq ?_ | refine Goes.skip ?_ | refine Goes.inBlock ?_ | refine Goes.block ?_ | refine Goes.exit rfl ?_ | (refine Goes.region [1, 3, 4, 12] fun K hK => ?_; simp (maxSteps := 4000000) only [go_sem, ↓reduceIte, reduceCtorEq, Nat.reduceEqDiff, Nat.reduceBEq, Int.reduceBEq, Int.reduceBNe, Nat.reduceLT, Nat.reduceLeDiff, Nat.reduceAdd, Nat.reduceSub, Nat.reduceMul, Int.reduceToNat, Int.reduceEq, Int.reduceLT, Int.reduceLE, hx2]; refine hK _ _ ?_; clear hK K))
    refine Goes.cond rfl (fun h2 => ?_) (fun h2 => ?_)
    · have hlt2 : i < x.tails.length := by simpa [hnl] using h2
      have hg3 := getD_map_lt iD x.tails i hlt2
      rw [iD] at hg3
      have hi0 : (0 : Int) ≤ (i : Int) := by omega
      have hi1 : (i : Int) < ((x.tails.map iD).length : Int) := by omega
      have hnw2 : IntKind.u64.wrap x.tails[i] = (((x.tails[i] % 18446744073709551616).toNat : Nat) : Int) := by simp [IntKind.wrap, IntKind.bits, IntKind.signed]; omega
      refine Goes.skip ?_
      refine Goes.seq ?_
      refine Goes.block ?_
      refine Goes.region [1, 3, 4, 12] fun K hK => ?_; simp (maxSteps := 4000000) only [go_sem, ↓reduceIte, reduceCtorEq, Nat.reduceEqDiff, Nat.reduceBEq, Int.reduceBEq, Int.reduceBNe, Nat.reduceLT, Nat.reduceLeDiff, Nat.reduceAdd, Nat.reduceSub, Nat.reduceMul, Int.reduceToNat, Int.reduceEq, Int.reduceLT, Int.reduceLE, hx2, hg3, hi0, hi1, hnw2]
      refine ⟨_, Try.call22, (refNumber_slc (x.tails[i] % 18446744073709551616).toNat 4 _ (by omega) (by omega) (by omega)).mono ?_⟩
      rintro e σ2 ⟨rfl, rfl⟩
      simp only [go_sem, ↓reduceIte, reduceCtorEq, Nat.reduceEqDiff, Nat.reduceBEq, Int.reduceBEq, Int.reduceBNe, Nat.reduceLT, Nat.reduceLeDiff, Nat.reduceAdd, Nat.reduceSub, Nat.reduceMul, Int.reduceToNat, Int.reduceEq, Int.reduceLT, Int.reduceLE, ho, hd, htk]
      rw [← n32_of]
      have hl4 := n32_len x.tails[i]
      refine ⟨⟨by simp, plain_mapF bD 1 (fun _ => ⟨rfl, rfl⟩) _, by simp; omega, by simp; omega⟩, fun ob hz hf => hK _ _ ?_⟩; clear hK K
      have hg4 := hg.app hz hf
      repeat' (first | refine Goes.seq ?_ | refine Goes.skip ?_ | refine Goes.inBlock ?_ | refine Goes.block ?_ | refine Goes.exit rfl ?_ | (refine Goes.region [1, 3, 4, 12] fun K hK => ?_; simp (maxSteps := 4000000) only [go_sem, ↓reduceIte, reduceCtorEq, Nat.reduceEqDiff, Nat.reduceBEq, Int.reduceBEq, Int.reduceBNe, Nat.reduceLT, Nat.reduceLeDiff, Nat.reduceAdd, Nat.reduceSub, Nat.reduceMul, Int.reduceToNat, Int.reduceEq, Int.reduceLT, Int.reduceLE]; refine hK _ _ ?_; clear hK K))
      refine Goes.rebase [1, 3, 4, 12] ?_
      simp only [go_sem, ↓reduceIte, reduceCtorEq, Nat.reduceEqDiff, Nat.reduceBEq, Int.reduceBEq, Int.reduceBNe, Nat.reduceLT, Nat.reduceLeDiff, Nat.reduceAdd, Nat.reduceSub, Nat.reduceMul, Int.reduceToNat, Int.reduceEq, Int.reduceLT, Int.reduceLE]
      rw [wrap_succ i (by omega)]
      have hx3 : bs ++ (n32 x.tails.length ++ (x.tails.take (i + 1)).flatMap n32) = bi ++ n32 x.tails[i] := by
        rw [take_succ_flatMap n32 x.tails i hlt2, ← hbs]; simp only [List.append_assoc]
      refine ih (i + 1) _ _ ⟨by omega, ob, by rw [hx3]; exact hg4, by rw [hx3]; simp, by rw [hx3]; simp⟩ (by omega)
    · have hge : ¬ i < x.tails.length := by simpa [hnl] using h2
      have : i = x.tails.length := by omega
      rw [this, List.take_length] at hbs
      repeat' (first | refine Goes.seq ?_ | refine Goes.skip ?_ | refine Goes.inBlock ?_ | refine Goes.block ?_ | refine Goes.exit rfl ?_ | (refine Goes.region [1, 3, 4] fun K hK => ?_; simp (maxSteps := 4000000) only [go_sem, ↓reduceIte, reduceCtorEq, Nat.reduceEqDiff, Nat.reduceBEq, Int.reduceBEq, Int.reduceBNe, Nat.reduceLT, Nat.reduceLeDiff, Nat.reduceAdd, Nat.reduceSub, Nat.reduceMul, Int.reduceToNat, Int.reduceEq, Int.reduceLT, Int.reduceLE]; refine hK _ _ ?_; clear hK K))
      refine hk' _ _ ⟨rfl, rfl, o, ?_⟩
      rw [show opt f4 (n32 x.tails.length ++ x.tails.flatMap n32) = n32 x.tails.length ++ x.tails.flatMap n32 from if_pos h, hbs]
      exact ⟨hg, rfl, rfl⟩
  · refine Goes.skip (hk' _ _ ⟨rfl, rfl, o, ?_⟩)
    rw [show opt f4 (n32 x.tails.length ++ x.tails.flatMap n32) = [] from if_neg (by rw [h]; simp), List.append_nil]
    exact ⟨hg, rfl, rfl⟩


theorem wbytes_calls (x : XAct) (hfit : x.Fits) (σ : Store) : ACalls Try.prog 12 [x.d] σ (fun e σ' => e = .ret (.slc (x.bytes.map bD)) ∧ σ' = σ) := by
  have hlb : (x.by_.map bD).length = x.by_.length := List.length_map ..
  have hln : (x.names.map sD).length = x.names.length := List.length_map ..
  have hlt : (x.tails.map iD).length = x.tails.length := List.length_map ..
  suffices h : ACalls Try.prog 12 [x.d] [] (fun e σ' => ∃ b, e = .ret (.own (some b) 1 x.bytes.length) ∧ σ' = [(b, .arr 1 (x.bytes.map bD))]) by
    refine h.pub1 (R' := fun e => e = .ret (.slc (x.bytes.map bD))) (fun e σ' hR => ?_) σ
    obtain ⟨b, rfl, rfl⟩ := hR
    refine .inr ⟨_, b, 1, _, rfl, rfl, ?_⟩
    simp only [D.pub, true_and]
    rw [if_pos (by simp), List.take_of_length_le (by simp)]
  unfold XAct.d
  refine ACalls.of_body Try.func12 rfl Try.ntmps12 (by simp) fun C hC => ?_
  obtain ⟨f0, f1, f2, f3, f4, kn, hF, b0, b1, b2, b3, b4, hq, hls, h9, hL⟩ := letters_has x.kind
  have hbytes : x.bytes = [UInt8.ofNat (x.kind % 256).toNat] ++ opt f0 (tx x.name) ++ opt f1 (tx ⟨x.by_.toArray⟩) ++ opt f2 (n32 x.num) ++ opt f3 (n32 x.names.length ++ x.names.flatMap tx) ++ opt f4 (n32 x.tails.length ++ x.tails.flatMap n32) := by
    unfold XAct.bytes; rw [hF]
  clear hq h9 hL
  refine Goes.seq ?_
  refine Goes.region [0] fun K hK => ?_; simp (maxSteps := 4000000) only [go_sem, ↓reduceIte, reduceCtorEq, Nat.reduceEqDiff, Nat.reduceBEq, Int.reduceBEq, Int.reduceBNe, Nat.reduceLT, Nat.reduceLeDiff, Nat.reduceAdd, Nat.reduceSub, Nat.reduceMul, Int.reduceToNat, Int.reduceEq, Int.reduceLT, Int.reduceLE]
  intro x1
  generalize hρ : [(x1, AObj.arr 6 [D.agg [.v (.int .i64 x.kind), .v (.int .i64 x.num), .v (.string x.name), .slc (x.by_.map bD), .slc (x.names.map sD), .slc (x.tails.map iD)]])] = ρ
  have hx : sget x1 ρ = some (.arr 6 [D.agg [.v (.int .i64 x.kind), .v (.int .i64 x.num), .v (.string x.name), .slc (x.by_.map bD), .slc (x.names.map sD), .slc (x.tails.map iD)]]) := by rw [← hρ]; exact sget_self ..
  refine hK _ _ ?_; clear hK K hρ
  refine Goes.seq ?_
  refine Goes.region [1] fun K hK => ?_; simp (maxSteps := 4000000) only [go_sem, ↓reduceIte, reduceCtorEq, Nat.reduceEqDiff, Nat.reduceBEq, Int.reduceBEq, Int.reduceBNe, Nat.reduceLT, Nat.reduceLeDiff, Nat.reduceAdd, Nat.reduceSub, Nat.reduceMul, Int.reduceToNat, Int.reduceEq, Int.reduceLT, Int.reduceLE, hx]
  refine ⟨_, Try.call19, (letters_calls x.kind _).mono ?_⟩
  rintro e σ1 ⟨rfl, rfl⟩
  simp only [go_sem, ↓reduceIte, reduceCtorEq, Nat.reduceEqDiff, Nat.reduceBEq, Int.reduceBEq, Int.reduceBNe, Nat.reduceLT, Nat.reduceLeDiff, Nat.reduceAdd, Nat.reduceSub, Nat.reduceMul, Int.reduceToNat, Int.reduceEq, Int.reduceLT, Int.reduceLE]
  refine hK _ _ ?_; clear hK K
  generalize lettersD x.kind = lt at b0 b1 b2 b3 b4 hls ⊢
  have hby : D.v (Value.int IntKind.u8 (IntKind.u8.wrap x.kind)) = bD (UInt8.ofNat (x.kind % 256).toNat) := by
    unfold bD
    congr 2
    simp [IntKind.wrap, IntKind.bits, IntKind.signed]; omega
  refine Goes.seq (Goes.join (Fr12 x1 lt σ1 [UInt8.ofNat (x.kind % 256).toNat]) ?_ ?_)
  · intro k' hk'
    refine Goes.region [1, 3] fun K hK => ?_; simp (maxSteps := 4000000) only [go_sem, ↓reduceIte, reduceCtorEq, Nat.reduceEqDiff, Nat.reduceBEq, Int.reduceBEq, Int.reduceBNe, Nat.reduceLT, Nat.reduceLeDiff, Nat.reduceAdd, Nat.reduceSub, Nat.reduceMul, Int.reduceToNat, Int.reduceEq, Int.reduceLT, Int.reduceLE, hx]
    refine ⟨by decide, fun b hb => hK _ _ ?_⟩
    rw [hby]
    exact hk' _ _ ⟨rfl, rfl, some b, ⟨fun c hc => by cases hc; exact hb, fun e => by cases e⟩, rfl, rfl⟩
  intro env σ hI
  have hm1 := hfit.many
  have hm2 := hfit.tails
  have hlo : ∀ f l n, l.length ≤ n → (opt f l).length ≤ n := fun f l n h => by unfold opt; split <;> simp_all
  have l0 := hlo f0 (tx x.name) 65537 (tx_len _ hfit.name)
  have l1 := hlo f1 (tx ⟨x.by_.toArray⟩) 65537 (tx_len _ (by rw [size_mk]; exact hfit.by_))
  have l2 := hlo f2 (n32 x.num) 4 (by rw [n32_len]; exact Nat.le_refl _)
  have l3' := flatMap_length_le tx 65537 x.names fun s hs => tx_len s (hfit.names s hs)
  have l3 := hlo f3 (n32 x.names.length ++ x.names.flatMap tx) (4 + 2 ^ 20 * 65537) (by
    rw [List.length_append, n32_len]; omega)
  refine Goes.seq (w_name hfit hls b0 hx _ _ _ _ hI (by simp) fun env σ hI => ?_)
  refine Goes.seq (w_bytes hfit hls b1 hx _ _ _ _ hI (by simp; omega) fun env σ hI => ?_)
  refine Goes.seq (w_num hfit hls b2 hx _ _ _ _ hI (by simp; omega) fun env σ hI => ?_)
  refine Goes.seq (w_names hfit hls b3 hx _ _ _ _ hI (by simp; omega) fun env σ hI => ?_)
  refine Goes.seq (w_tails hfit hls b4 hx _ _ _ _ hI (by simp; omega) fun env σ hI => ?_)
  obtain ⟨e1, e3, o, hg, e4, rfl⟩ := hI
  rw [← hbytes] at hg e4 ⊢
  refine Goes.seq ?_
  refine Goes.region [4] fun K hK => ?_; simp (maxSteps := 4000000) only [go_sem, ↓reduceIte, reduceCtorEq, Nat.reduceEqDiff, Nat.reduceBEq, Int.reduceBEq, Int.reduceBNe, Nat.reduceLT, Nat.reduceLeDiff, Nat.reduceAdd, Nat.reduceSub, Nat.reduceMul, Int.reduceToNat, Int.reduceEq, Int.reduceLT, Int.reduceLE, e4]
  refine hK _ _ ?_
  obtain ⟨b, rfl⟩ : ∃ b, o = some b := by
    cases o with
    | none => have := hg.zero rfl; rw [hbytes] at this; simp at this
    | some b => exact ⟨b, rfl⟩
  refine Goes.le (ELe.refl _) (SLe.append_left _ _) ?_
  refine Goes.ret hC Try.func12 (by simp [go_sem]) ?_
  simp only [go_sem, ↓reduceIte, reduceCtorEq, Nat.reduceEqDiff, Nat.reduceBEq, Int.reduceBEq, Int.reduceBNe, Nat.reduceLT, Nat.reduceLeDiff, Nat.reduceAdd, Nat.reduceSub, Nat.reduceMul, Int.reduceToNat, Int.reduceEq, Int.reduceLT, Int.reduceLE]
  exact ⟨b, rfl, rfl⟩
end Go.Ab.S21
