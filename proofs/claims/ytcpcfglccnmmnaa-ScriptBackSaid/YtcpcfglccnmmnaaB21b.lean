/- Layer 21: acts read and written; plain Lean. -/
import Derived.Test.YtcpcfglccnmmnaaB21a
set_option linter.unusedSimpArgs false
set_option linter.unusedVariables false
set_option linter.constructorNameAsVariable false
namespace Go.Ab.S21
open Go Go.Proofs

theorem nR_app {f : Bool} {k n : Int} (t : List UInt8) (h1 : f = true → numOk (leastD k) n = true) (h2 : f = false → n = 0) : nR f k (opt f (n32 n) ++ t) = .ok n t := by
  cases f with
  | false => rw [h2 rfl]; rfl
  | true =>
    have h := h1 rfl
    unfold numOk leastD at h
    show (if true = true then (if k = 9 then armR (n32 n ++ t) else numR (n32 n ++ t)) else _) = _
    rw [if_pos rfl]
    by_cases hk : k = 9
    · rw [if_pos hk] at h ⊢
      simp at h
      exact armR_app h.1 h.2 t
    · rw [if_neg hk] at h ⊢
      simp at h
      exact numR_app h.1 h.2 t
theorem nR_inv {f : Bool} {k n : Int} {bs t : List UInt8} (h : nR f k bs = .ok n t) : bs = opt f (n32 n) ++ t ∧ (f = true → numOk (leastD k) n = true) ∧ (f = false → n = 0) := by
  cases f with
  | false => cases h; exact ⟨rfl, (fun h => by cases h), fun _ => rfl⟩
  | true =>
    have h : (if k = 9 then armR bs else numR bs) = .ok n t := h
    unfold numOk leastD
    by_cases hk : k = 9
    · rw [if_pos hk] at h ⊢
      obtain ⟨h1, h2, h3⟩ := armR_inv h
      exact ⟨h1, fun _ => by simp; omega, fun h => by cases h⟩
    · rw [if_neg hk] at h ⊢
      obtain ⟨h1, h2, h3⟩ := numR_inv h
      exact ⟨h1, fun _ => by simp; omega, fun h => by cases h⟩

def XAct.rest (x : XAct) : List UInt8 :=
  match fieldsD x.kind with
  | ([f0, f1, f2, f3, f4], _) => opt f0 (tx x.name) ++ (opt f1 (tx ⟨x.by_.toArray⟩) ++ (opt f2 (n32 x.num) ++ (opt f3 (n32 x.names.length ++ x.names.flatMap tx) ++ opt f4 (n32 x.tails.length ++ x.tails.flatMap n32))))
  | _ => []

theorem bytes_rest (x : XAct) : x.bytes = UInt8.ofNat (x.kind % 256).toNat :: x.rest := by
  obtain ⟨f0, f1, f2, f3, f4, kn, hF, _⟩ := fields_cases x.kind
  unfold XAct.bytes XAct.rest
  rw [hF]
  simp [List.append_assoc]

theorem fields_known {k : Int} {l : List Bool} (h : fieldsD k = (l, true)) : 1 ≤ k ∧ k ≤ 11 := by
  unfold fieldsD at h
  split at h
  · omega
  split at h
  · omega
  split at h
  · omega
  split at h
  · omega
  split at h
  · omega
  split at h
  · omega
  split at h
  · omega
  · cases h

theorem empty_iff (s : ByteArray) : (s.toList == ByteArray.toList { data := #[] }) = true ↔ s = ByteArray.empty := by
  rw [beq_iff_eq, toList_data, toList_data]
  constructor
  · intro h
    cases s with
    | mk a => cases a with
      | mk l => have h : l = [] := h
                subst h; rfl
  · rintro rfl; rfl

/-- What an act without an error is. -/
theorem wrong_zero {x : XAct} {f0 f1 f2 f3 f4 kn : Bool} (hF : fieldsD x.kind = ([f0, f1, f2, f3, f4], kn)) : x.wrong = 0 ↔ kn = true ∧ (f0 = false → x.name = ByteArray.empty) ∧ (f1 = false → x.by_ = []) ∧ (f2 = false → x.num = 0) ∧ (f3 = false → x.names = []) ∧ (f4 = false → x.tails = []) ∧
    (f2 = true → numOk (leastD x.kind) x.num = true) ∧ x.tails.all (numOk 0) = true := by
  have hform : x.form = true ↔ kn = true ∧ (f0 = false → x.name = ByteArray.empty) ∧ (f1 = false → x.by_ = []) ∧ (f2 = false → x.num = 0) ∧ (f3 = false → x.names = []) ∧ (f4 = false → x.tails = []) := by
    unfold XAct.form
    rw [hF]
    simp only [Bool.and_eq_true, Bool.or_eq_true, empty_iff, List.length_map]
    have e1 : ∀ {α : Type} (l : List α), (((l.length : Nat) : Int) == 0) = true ↔ l = [] := fun l => by simp
    simp only [e1, beq_iff_eq]
    cases f0 <;> cases f1 <;> cases f2 <;> cases f3 <;> cases f4 <;> simp <;> (constructor <;> (intro h; simp_all))
  unfold XAct.wrong
  rw [hF]
  cases hfm : x.form with
  | false =>
    rw [if_pos rfl]
    constructor
    · intro h; cases h
    · rintro ⟨h1, h2, h3, h4, h5, h6, _⟩
      rw [hform.2 ⟨h1, h2, h3, h4, h5, h6⟩] at hfm; cases hfm
  | true =>
    obtain ⟨h1, h2, h3, h4, h5, h6⟩ := hform.1 hfm
    rw [if_neg (by simp)]
    rw [show ([f0, f1, f2, f3, f4], kn).1.getD 2 false = f2 from rfl]
    by_cases hA : f2 = true ∧ numOk (leastD x.kind) x.num = false
    · rw [if_pos hA]
      constructor
      · intro h; exact absurd h (by decide)
      · rintro ⟨_, _, _, _, _, _, h7, _⟩
        rw [h7 hA.1] at hA; exact absurd hA.2 (by simp)
    · rw [if_neg hA]
      by_cases hB : x.tails.all (numOk 0) = false
      · rw [if_pos hB]
        constructor
        · intro h; exact absurd h (by decide)
        · rintro ⟨_, _, _, _, _, _, _, h8⟩
          rw [hB] at h8; cases h8
      · rw [if_neg hB]
        constructor
        · intro _
          refine ⟨h1, h2, h3, h4, h5, h6, fun hf => ?_, by simpa using hB⟩
          cases hn : numOk (leastD x.kind) x.num with
          | true => rfl
          | false => exact absurd ⟨hf, hn⟩ hA
        · intro _; rfl

theorem actR_app {x : XAct} (hw : x.wrong = 0) (hfit : x.Fits) (t : List UInt8) : actR x.kind (x.rest ++ t) = .ok x t ∧ 1 ≤ x.kind ∧ x.kind ≤ 11 := by
  obtain ⟨f0, f1, f2, f3, f4, kn, hF, _⟩ := fields_cases x.kind
  obtain ⟨hk, z0, z1, z2, z3, z4, hn, ht⟩ := (wrong_zero hF).1 hw
  subst hk
  refine ⟨?_, fields_known hF⟩
  have hby : (⟨x.by_.toArray⟩ : ByteArray).size ≤ 65535 := by rw [size_mk]; exact hfit.by_
  unfold actR XAct.rest
  rw [hF]
  simp only [Bool.true_eq_false, if_false, List.append_assoc]
  rw [optR_app (a := x.name) _ (fun _ => textR_app hfit.name _) z0]
  simp only [Res.bind]
  rw [optR_app (a := (⟨x.by_.toArray⟩ : ByteArray)) _ (fun _ => textR_app hby _) (fun h => by rw [z1 h]; rfl)]
  simp only [Res.bind]
  rw [nR_app _ hn z2]
  simp only [Res.bind]
  rw [optR_app (a := x.names) _ (fun _ => listR_app (p := fun s => s.size ≤ 65535) (fun a t h => textR_app h t) _ _ hfit.names (by have := hfit.many; omega)) z3]
  simp only [Res.bind]
  rw [optR_app (a := x.tails) _ (fun _ => listR_app (p := fun n => numOk 0 n = true) (fun a t h => by unfold numOk at h; simp at h; exact numR_app h.1 h.2 t) _ _ (fun a ha => List.all_eq_true.1 ht a ha) (by have := hfit.tails; omega)) z4]

theorem flat_len {α : Type} {enc : α → List UInt8} {n : Nat} (hn : ∀ a, n ≤ (enc a).length) : ∀ (l : List α), n * l.length ≤ (l.flatMap enc).length
  | [] => by simp
  | a :: l => by
    have := flat_len hn l
    have := hn a
    rw [List.flatMap_cons, List.length_append, List.length_cons, Nat.mul_succ]
    omega

theorem actR_inv {k : Int} {bs t : List UInt8} {x : XAct} (hl : bs.length < 2 ^ 20) (h : actR k bs = .ok x t) : x.kind = k ∧ bs = x.rest ++ t ∧ x.wrong = 0 ∧ x.Fits ∧ 1 ≤ k ∧ k ≤ 11 := by
  obtain ⟨f0, f1, f2, f3, f4, kn, hF, _⟩ := fields_cases k
  unfold actR at h
  rw [hF] at h
  simp only [] at h
  split at h
  · cases h
  rename_i hkn
  have hkn : kn = true := by simpa using hkn
  subst hkn
  cases h1 : optR f0 textR ByteArray.empty bs with
  | err c => rw [h1] at h; cases h
  | ok nm b1 =>
  rw [h1] at h
  simp only [Res.bind] at h
  cases h2 : optR f1 textR ByteArray.empty b1 with
  | err c => rw [h2] at h; cases h
  | ok by_ b2 =>
  rw [h2] at h
  simp only [] at h
  cases h3 : nR f2 k b2 with
  | err c => rw [h3] at h; cases h
  | ok n b3 =>
  rw [h3] at h
  simp only [] at h
  cases h4 : optR f3 (listR textR) [] b3 with
  | err c => rw [h4] at h; cases h
  | ok ns b4 =>
  rw [h4] at h
  simp only [] at h
  cases h5 : optR f4 (listR numR) [] b4 with
  | err c => rw [h5] at h; cases h
  | ok ts b5 =>
  rw [h5] at h
  cases h
  obtain ⟨e1, p1, q1⟩ := optR_inv textR_inv h1
  obtain ⟨e2, p2, q2⟩ := optR_inv textR_inv h2
  obtain ⟨e3, p3, q3⟩ := nR_inv h3
  obtain ⟨e4, p4, q4⟩ := optR_inv (listR_inv (enc := tx) (p := fun s => s.size ≤ 65535) fun a bs t h => textR_inv h) h4
  obtain ⟨e5, p5, q5⟩ := optR_inv (listR_inv (enc := n32) (p := fun n => numOk 0 n = true) fun a bs t h => by obtain ⟨h1, h2, h3⟩ := numR_inv h; exact ⟨h1, by unfold numOk; simp; omega⟩) h5
  have hbb : (⟨by_.data.toList.toArray⟩ : ByteArray) = by_ := by simp
  have hsz : by_.data.toList.length = by_.size := by simp
  refine ⟨rfl, ?_, (wrong_zero hF).2 ⟨rfl, q1, (fun h => by rw [q2 h]; rfl), q3, q4, q5, p3, ?_⟩, ⟨?_, ?_, ?_, ?_, ?_⟩, fields_known hF⟩
  · unfold XAct.rest
    simp only [hF]
    rw [hbb, e1, e2, e3, e4, e5]
    simp [List.append_assoc]
  · cases f4 with
    | true => exact List.all_eq_true.2 (p5 rfl)
    | false => rw [q5 rfl]; rfl
  · cases f0 with
    | true => exact p1 rfl
    | false =>
      show nm.size ≤ 65535
      rw [q1 rfl]; exact Nat.zero_le _
  · rw [hsz]
    cases f1 with
    | true => exact p2 rfl
    | false => rw [q2 rfl]; exact Nat.zero_le _
  · cases f3 with
    | true =>
      have := flat_len (enc := tx) (n := 2) (fun a => by simp [tx, le]) ns
      have hlen := congrArg List.length e1
      have hlen2 := congrArg List.length e2
      have hlen3 := congrArg List.length e3
      have hlen4 := congrArg List.length e4
      simp only [List.length_append, opt, if_true] at hlen hlen2 hlen3 hlen4
      show ns.length < 2 ^ 20
      omega
    | false => rw [q4 rfl]; exact Nat.two_pow_pos 20
  · cases f3 with
    | true => exact p4 rfl
    | false => rw [q4 rfl]; simp
  · cases f4 with
    | true =>
      have := flat_len (enc := n32) (n := 4) (fun a => by rw [n32_len]; exact Nat.le_refl _) ts
      have hlen := congrArg List.length e1
      have hlen2 := congrArg List.length e2
      have hlen3 := congrArg List.length e3
      have hlen4 := congrArg List.length e4
      have hlen5 := congrArg List.length e5
      simp only [List.length_append, opt, if_true] at hlen hlen2 hlen3 hlen4 hlen5
      show ts.length < 2 ^ 20
      omega
    | false => rw [q5 rfl]; exact Nat.two_pow_pos 20

theorem kind_byte {k : Int} (h0 : 1 ≤ k) (h1 : k ≤ 11) : ((UInt8.ofNat (k % 256).toNat).toNat : Int) = k := by
  simp; omega

/-- What is written is read. -/
theorem read_write : ∀ (l : List XAct) (n : Nat), (allBytes l).length ≤ n → firstWrong l = 0 → (∀ x ∈ l, x.Fits) → readR n (allBytes l) = .ok l []
  | [], n, _, _, _ => by cases n <;> rfl
  | x :: l, n, hn, hw, hf => by
    have hx : x.wrong = 0 := by
      cases hc : decide (x.wrong = 0) with
      | true => simpa using hc
      | false =>
        simp at hc
        rw [firstWrong, if_neg hc] at hw
        exact hw
    rw [firstWrong, if_pos hx] at hw
    have he : allBytes (x :: l) = UInt8.ofNat (x.kind % 256).toNat :: (x.rest ++ allBytes l) := by
      unfold allBytes
      rw [List.flatMap_cons, bytes_rest]; rfl
    obtain ⟨h1, h2, h3⟩ := actR_app hx (hf x (by simp)) (allBytes l)
    rw [he] at hn ⊢
    cases n with
    | zero => simp at hn
    | succ n =>
      rw [readR, kind_byte h2 h3, h1]
      simp only [Res.bind]
      rw [read_write l n (by simp at hn; omega) hw fun y hy => hf y (by simp [hy])]

/-- What is read is written. -/
theorem write_read : ∀ (n : Nat) (bs b : List UInt8) (l : List XAct), bs.length ≤ n → bs.length < 2 ^ 20 → readR n bs = .ok l b → allBytes l = bs ∧ firstWrong l = 0 ∧ (∀ x ∈ l, x.Fits) ∧ l.length ≤ bs.length
  | _, [], _, _, _, _, h => by simp only [readR] at h; cases h; exact ⟨rfl, rfl, by simp, by simp⟩
  | 0, c :: t, _, _, hn, _, _ => by simp at hn
  | n + 1, c :: t, b, l, hn, hl, h => by
    rw [readR] at h
    simp only [List.length_cons] at hn hl
    cases hx : actR c.toNat t with
    | err e => rw [hx] at h; cases h
    | ok x bs =>
      rw [hx] at h
      simp only [Res.bind] at h
      have hlen := actR_len hx
      obtain ⟨hk, ht, hw, hf, hk1, hk2⟩ := actR_inv (by omega) hx
      cases hy : readR n bs with
      | err e => rw [hy] at h; cases h
      | ok l2 b2 =>
        rw [hy] at h
        cases h
        obtain ⟨h1, h2, h3, h4⟩ := write_read n bs _ l2 (by omega) (by omega) hy
        refine ⟨?_, by rw [firstWrong, if_pos hw]; exact h2, fun y hy => ?_, by simp only [List.length_cons]; omega⟩
        · unfold allBytes at h1 ⊢
          rw [List.flatMap_cons, bytes_rest, h1, hk, ht]
          have : UInt8.ofNat (((c.toNat : Int) % 256).toNat) = c := by
            have := c.toNat_lt
            rw [show (((c.toNat : Int) % 256).toNat) = c.toNat by omega]; simp
          rw [this]; rfl
        · rcases List.mem_cons.1 hy with rfl | hy
          · exact hf
          · exact h3 y hy
end Go.Ab.S21
