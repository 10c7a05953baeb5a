/- Layer 21: reading what is written, and writing what is read; plain Lean. -/
import Derived.Test.YtcpcfglccnmmnaaM21b
set_option linter.unusedSimpArgs false
set_option linter.unusedVariables false
set_option linter.constructorNameAsVariable false
namespace Go.Ab.S21
open Go Go.Proofs

theorem le_zero (k : Nat) : le 0 k = List.replicate k 0 := by
  induction k with
  | zero => rfl
  | succ k ih => rw [le_succ, ih, List.replicate_succ']; simp

theorem le_cons' (v k : Nat) : le v (k + 1) = UInt8.ofNat (v % 256) :: le (v / 256) k := by
  unfold le
  rw [List.range_succ_eq_map, List.map_cons, List.map_map]
  congr 1
  · simp
  · refine List.map_congr_left fun i _ => ?_
    simp only [Function.comp, Nat.pow_succ]
    rw [Nat.mul_comm (256 ^ i) 256, ← Nat.div_div_eq_div_mul]

theorem val_le : ∀ (k v : Nat), v < 256 ^ k → val (le v k) = v
  | 0, v, h => by simp at h; subst h; rfl
  | k + 1, v, h => by
    rw [le_cons']
    show (UInt8.ofNat (v % 256)).toNat + 256 * val (le (v / 256) k) = v
    rw [val_le k (v / 256) (by rw [Nat.pow_succ] at h; omega)]
    simp; omega

theorem le_val : ∀ (l : List UInt8), le (val l) l.length = l
  | [] => rfl
  | c :: l => by
    rw [List.length_cons, le_cons']
    have h : val (c :: l) = c.toNat + 256 * val l := rfl
    have hc := c.toNat_lt
    have e1 : val (c :: l) % 256 = c.toNat := by omega
    have e2 : val (c :: l) / 256 = val l := by omega
    rw [e1, e2, le_val l]
    simp

theorem le_len (v k : Nat) : (le v k).length = k := by simp [le]

theorem takeS_app (l t : List UInt8) : takeS (l ++ t, false) l.length = (l, (t, false)) := by
  unfold takeS
  rw [if_neg (by simp)]
  simp

theorem takeS_inv {bs l t : List UInt8} {n : Nat} (h : takeS (bs, false) n = (l, (t, false))) : bs = l ++ t ∧ l.length = n := by
  unfold takeS at h
  split at h
  · cases h
  · rename_i hc
    simp at hc
    cases h
    exact ⟨(List.take_append_drop n bs).symm, by simp; omega⟩

theorem numS_app (v k : Nat) (t : List UInt8) (h : v < 256 ^ k) : numS (le v k ++ t, false) k = (v, (t, false)) := by
  have := takeS_app (le v k) t
  rw [le_len] at this
  unfold numS
  rw [this, val_le k v h]

theorem numS_inv {bs : List UInt8} {k : Nat} (h : (numS (bs, false) k).2.2 = false) : bs = le (numS (bs, false) k).1 k ++ (numS (bs, false) k).2.1 := by
  unfold numS at h ⊢
  obtain ⟨l, t, b, hE⟩ : ∃ l t b, takeS (bs, false) k = (l, (t, b)) := ⟨_, _, _, rfl⟩
  rw [hE] at h ⊢
  have hb : b = false := h
  subst hb
  obtain ⟨h1, h2⟩ := takeS_inv hE
  show bs = le (val l) k ++ t
  rw [← h2, le_val]; exact h1

theorem n32_nat (m : Nat) (h : m < 2147483648) : n32 (m : Int) = le m 4 := by
  unfold n32
  congr 1; omega

theorem numR_app {n : Int} (h0 : 0 ≤ n) (h1 : n < 2147483648) (t : List UInt8) : numR (n32 n ++ t) = .ok n t := by
  obtain ⟨m, rfl⟩ : ∃ m : Nat, n = (m : Int) := ⟨n.toNat, by omega⟩
  rw [n32_nat m (by omega)]
  unfold numR
  rw [numS_app m 4 t (by omega)]
  rw [if_neg (by simp), if_neg (by omega)]

theorem numR_inv {bs t : List UInt8} {n : Int} (h : numR bs = .ok n t) : bs = n32 n ++ t ∧ 0 ≤ n ∧ n < 2147483648 := by
  unfold numR at h
  split at h
  · cases h
  · rename_i hb
    split at h
    · cases h
    · rename_i hc
      cases h
      refine ⟨?_, by omega, by omega⟩
      rw [n32_nat _ (by omega)]
      exact numS_inv (by simpa using hb)

theorem i32_wrap (m : Nat) (h : m < 4294967296) : (IntKind.i32.wrap (m : Int)) % 4294967296 = m ∧ -2147483648 ≤ IntKind.i32.wrap (m : Int) ∧ IntKind.i32.wrap (m : Int) < 2147483648 := by
  simp [IntKind.wrap, IntKind.bits, IntKind.signed]
  omega

theorem armR_app {n : Int} (h0 : -2147483648 ≤ n) (h1 : n < 2147483648) (t : List UInt8) : armR (n32 n ++ t) = .ok n t := by
  unfold armR n32
  rw [numS_app (n % 4294967296).toNat 4 t (by omega)]
  rw [if_neg (by simp)]
  have : IntKind.i32.wrap (((n % 4294967296).toNat : Nat) : Int) = n := by
    simp [IntKind.wrap, IntKind.bits, IntKind.signed]
    omega
  rw [this]

theorem armR_inv {bs t : List UInt8} {n : Int} (h : armR bs = .ok n t) : bs = n32 n ++ t ∧ -2147483648 ≤ n ∧ n < 2147483648 := by
  unfold armR at h
  split at h
  · cases h
  · rename_i hb
    cases h
    obtain ⟨h1, h2, h3⟩ := i32_wrap _ (numS_bnd (bs, false) 4 (by omega))
    refine ⟨?_, h2, h3⟩
    unfold n32
    rw [h1, Int.toNat_natCast]
    exact numS_inv (by simpa using hb)

theorem textR_app {s : ByteArray} (h : s.size ≤ 65535) (t : List UInt8) : textR (tx s ++ t) = .ok s t := by
  have hl : s.data.toList.length = s.size := by simp
  have e : textS (tx s ++ t, false) = (s.data.toList, (t, false)) := by
    unfold textS tx
    rw [List.append_assoc, numS_app s.size 2 _ (by omega), ← hl, takeS_app]
  unfold textR
  rw [e]
  rfl

theorem textR_inv {bs t : List UInt8} {s : ByteArray} (h : textR bs = .ok s t) : bs = tx s ++ t ∧ s.size ≤ 65535 := by
  unfold textR at h
  split at h
  · cases h
  · rename_i hb
    cases h
    have hb : (textS (bs, false)).2.2 = false := by simpa using hb
    unfold textS at hb ⊢
    have hn : (numS (bs, false) 2).2.2 = false := by
      cases hc : (numS (bs, false) 2).2.2 with
      | false => rfl
      | true => rw [takeS_bad hc] at hb; cases hb
    have h1 := numS_inv hn
    have hlt : (numS (bs, false) 2).1 < 65536 := by
      have h1 := val_lt (takeS (bs, false) 2).1
      have h2 : 256 ^ (takeS (bs, false) 2).1.length ≤ 256 ^ 2 := Nat.pow_le_pow_right (by omega) (takeS_len (bs, false) 2).2
      show val _ < _
      omega
    obtain ⟨v, r, q, hv⟩ : ∃ v r q, numS (bs, false) 2 = (v, (r, q)) := ⟨_, _, _, rfl⟩
    rw [hv] at hn h1 hlt hb ⊢
    have hq : q = false := hn
    subst hq
    obtain ⟨l, u, p, hT⟩ : ∃ l u p, takeS (r, false) v = (l, (u, p)) := ⟨_, _, _, rfl⟩
    dsimp only at hb h1 hlt ⊢
    rw [hT] at hb ⊢
    have hp : p = false := hb
    subst hp
    obtain ⟨h3, h4⟩ := takeS_inv hT
    dsimp only
    refine ⟨?_, by rw [size_mk]; omega⟩
    unfold tx
    rw [size_mk, h4, List.append_assoc, show (⟨l.toArray⟩ : ByteArray).data.toList = l from by simp, ← h3]
    exact h1

theorem many_app {α : Type} {g : List UInt8 → Res α} {enc : α → List UInt8} {p : α → Prop} (hg : ∀ a t, p a → g (enc a ++ t) = .ok a t) : ∀ (l : List α) (t : List UInt8), (∀ a ∈ l, p a) → manyR g l.length (l.flatMap enc ++ t) = .ok l t
  | [], t, _ => rfl
  | a :: l, t, h => by
    rw [List.length_cons, manyR, List.flatMap_cons, List.append_assoc, hg a _ (h a (by simp))]
    simp only [Res.bind]
    rw [many_app hg l t fun b hb => h b (by simp [hb])]
theorem many_inv {α : Type} {g : List UInt8 → Res α} {enc : α → List UInt8} {p : α → Prop} (hg : ∀ a bs t, g bs = .ok a t → bs = enc a ++ t ∧ p a) : ∀ (n : Nat) {l : List α} {bs t : List UInt8}, manyR g n bs = .ok l t → bs = l.flatMap enc ++ t ∧ l.length = n ∧ ∀ a ∈ l, p a
  | 0, l, bs, t, h => by cases h; simp
  | n + 1, l, bs, t, h => by
    unfold manyR at h
    cases hx : g bs with
    | err c => rw [hx] at h; cases h
    | ok a b1 =>
      rw [hx] at h
      simp only [Res.bind] at h
      cases hy : manyR g n b1 with
      | err c => rw [hy] at h; cases h
      | ok l2 b2 =>
        rw [hy] at h
        cases h
        obtain ⟨rfl, h1⟩ := hg _ _ _ hx
        obtain ⟨rfl, h2, h3⟩ := many_inv hg n hy
        refine ⟨by simp, by simp [h2], fun b hb => ?_⟩
        rcases List.mem_cons.1 hb with rfl | hb
        · exact h1
        · exact h3 b hb
theorem listR_app {α : Type} {g : List UInt8 → Res α} {enc : α → List UInt8} {p : α → Prop} (hg : ∀ a t, p a → g (enc a ++ t) = .ok a t) (l : List α) (t : List UInt8) (h : ∀ a ∈ l, p a) (hl : l.length < 2147483648) : listR g (n32 l.length ++ l.flatMap enc ++ t) = .ok l t := by
  unfold listR
  rw [List.append_assoc, numR_app (by omega) (by omega)]
  simp only [Res.bind, Int.toNat_natCast]
  exact many_app hg l t h
theorem listR_inv {α : Type} {g : List UInt8 → Res α} {enc : α → List UInt8} {p : α → Prop} (hg : ∀ a bs t, g bs = .ok a t → bs = enc a ++ t ∧ p a) {l : List α} {bs t : List UInt8} (h : listR g bs = .ok l t) : bs = n32 l.length ++ l.flatMap enc ++ t ∧ ∀ a ∈ l, p a := by
  unfold listR at h
  cases hx : numR bs with
  | err c => rw [hx] at h; cases h
  | ok n b1 =>
    rw [hx] at h
    simp only [Res.bind] at h
    obtain ⟨rfl, h0, h1⟩ := numR_inv hx
    obtain ⟨rfl, h2, h3⟩ := many_inv hg _ h
    refine ⟨?_, h3⟩
    rw [h2, List.append_assoc, show ((n.toNat : Nat) : Int) = n by omega]
theorem optR_app {α : Type} {g : List UInt8 → Res α} {f : Bool} {a0 a : α} {e : List UInt8} (t : List UInt8) (h1 : f = true → g (e ++ t) = .ok a t) (h2 : f = false → a = a0) : optR f g a0 (opt f e ++ t) = .ok a t := by
  cases f with
  | true => exact h1 rfl
  | false => rw [h2 rfl]; rfl
theorem optR_inv {α : Type} {g : List UInt8 → Res α} {f : Bool} {a0 a : α} {bs t : List UInt8} {e : List UInt8} {p : Prop} (hg : g bs = .ok a t → bs = e ++ t ∧ p) (h : optR f g a0 bs = .ok a t) : bs = opt f e ++ t ∧ (f = true → p) ∧ (f = false → a = a0) := by
  cases f with
  | true => obtain ⟨h1, h2⟩ := hg h; exact ⟨h1, fun _ => h2, fun h => by cases h⟩
  | false => cases h; exact ⟨rfl, (fun h => by cases h), fun _ => rfl⟩
end Go.Ab.S21
