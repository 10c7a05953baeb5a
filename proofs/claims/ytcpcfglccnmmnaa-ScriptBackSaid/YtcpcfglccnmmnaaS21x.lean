/- Layer 21: the writer's methods, in a store of the writer's own rows alone. -/
import Derived.Test.YtcpcfglccnmmnaaS21h
import Derived.Test.YtcpcfglccnmmnaaAbY
set_option linter.unusedSimpArgs false
set_option linter.unusedVariables false
set_option linter.constructorNameAsVariable false
namespace Go.Ab.S21
open Go Go.Proofs

/-- The writer's box at w, and its bytes, in the row o. -/
def wst (w : Nat) (o : Option Nat) (bs : List UInt8) : Store := cellsOf o 1 (bs.map bD) ++ [(w, .arr 1 [.agg [.own o 1 bs.length]])]
def wok (w : Nat) (o : Option Nat) (bs : List UInt8) : Prop := o ≠ some w ∧ (o = none → bs = [])

theorem wst_box {w : Nat} {o : Option Nat} {bs : List UInt8} (h : wok w o bs) : sget w (wst w o bs) = some (.arr 1 [.agg [.own o 1 bs.length]]) := by
  unfold wst
  cases o with
  | none => simp [cellsOf]
  | some b =>
    have : ¬ w = b := fun e => h.1 (by rw [e])
    simp [cellsOf, sget, this]

theorem wst_row {w : Nat} {o : Option Nat} {bs : List UInt8} (h : wok w o bs) (ρ : Store) : oget 1 o (wst w o bs ++ ρ) = some (bs.map bD) := by
  unfold wst
  cases o with
  | none => simp [oget, h.2 rfl]
  | some b => simp [cellsOf, oget]

theorem wst_W {w : Nat} {o : Option Nat} {bs : List UInt8} (h : wok w o bs) (hl : bs.length < 2 ^ 38) : W w o bs (bs.map bD) (wst w o bs) := by
  have hm : (bs.map bD).length = bs.length := List.length_map ..
  have hr := wst_row h []
  rw [List.append_nil] at hr
  refine ⟨wst_box h, hr, by omega, List.take_of_length_le (by omega), fun x hx => ?_, by omega, h.1, fun e => by rw [h.2 e]; rfl⟩
  obtain ⟨c, _, rfl⟩ := List.mem_map.1 hx; exact ⟨rfl, rfl⟩

theorem wst_step {w b : Nat} {o : Option Nat} {bs ys : List UInt8} (h : wok w o bs) (hb : sget b (wst w o bs) = none) :
    wok w (some b) (bs ++ ys) ∧ SLe (wst w (some b) (bs ++ ys)) ((b, .arr 1 ((bs ++ ys).map bD)) :: sset w (.arr 1 [.agg [.own (some b) 1 (bs.length + ys.length)]]) (wst w o bs)) := by
  have hwb : w ≠ b := fun e => by subst e; rw [wst_box h] at hb; cases hb
  refine ⟨⟨fun e => hwb (by injection e with e; exact e.symm), fun e => by cases e⟩, ?_⟩
  refine SLe.cons (sget_self ..) (SLe.cons ?_ (SLe.nil _))
  rw [sget_cons, if_neg hwb, sget_sset, if_pos rfl, wst_box h, List.length_append]; rfl

theorem number_w (w : Nat) (o : Option Nat) (bs : List UInt8) (n least : Int) (h : wok w o bs) (hl : bs.length < 2 ^ 38) :
    ACalls Try.prog 36 [.ptr w 1 0 0, .v (.int .i64 n), .v (.int .i64 least)] (wst w o bs) (fun e σ' =>
      if least ≤ n ∧ n < 2147483648 then e = .ret (.tup []) ∧ ∃ o', wok w o' (bs ++ le (n % 4294967296).toNat 4) ∧ σ' = wst w o' (bs ++ le (n % 4294967296).toNat 4)
      else e = .panic (.ifc 73 (.agg [.v (.int .i64 1)])) ∧ σ' = []) := by
  refine (number_calls w o bs _ n least _ (wst_W h hl)).forget fun e σ' hR => ?_
  split at hR
  · rename_i hc
    obtain ⟨rfl, b, hb, rfl⟩ := hR
    obtain ⟨h1, h2⟩ := wst_step (ys := le (n % 4294967296).toNat 4) h hb
    have h3 : (le (n % 4294967296).toNat 4).length = 4 := by simp [le]
    rw [h3] at h2
    exact ⟨_, h2, by rw [if_pos hc]; exact ⟨rfl, _, h1, rfl⟩⟩
  · rename_i hc
    obtain ⟨rfl, rfl⟩ := hR
    exact ⟨[], SLe.nil _, by rw [if_neg hc]; exact ⟨rfl, rfl⟩⟩

/-- A text's bytes. -/
def tx (s : ByteArray) : List UInt8 := le s.size 2 ++ s.data.toList

theorem text_w (w : Nat) (o : Option Nat) (bs : List UInt8) (s : ByteArray) (h : wok w o bs) (hl : bs.length < 2 ^ 38) (hs : s.size ≤ 65535) :
    ACalls Try.prog 35 [.ptr w 1 0 0, .v (.string s)] (wst w o bs) (fun e σ' => e = .ret (.tup []) ∧ ∃ o', wok w o' (bs ++ tx s) ∧ σ' = wst w o' (bs ++ tx s)) := by
  refine (wtext_calls w o bs _ s _ (wst_W h hl) (by omega)).forget fun e σ' hR => ?_
  rw [if_neg (by omega)] at hR
  obtain ⟨rfl, b, hb, rfl⟩ := hR
  obtain ⟨h1, h2⟩ := wst_step (ys := tx s) h hb
  have h3 : (tx s).length = 2 + s.size := by simp [tx, le]
  rw [h3, ← Nat.add_assoc] at h2
  exact ⟨_, (by simpa [tx] using h2), rfl, _, h1, rfl⟩

/-- What the writer's rows and others hold. -/
structure St (w : Nat) (bs : List UInt8) (ρ : Store) (σ : Store) : Prop where
  ex : ∃ o, wok w o bs ∧ σ = wst w o bs ++ ρ ∧ Apart ρ (wst w o bs)

theorem St.keep {w : Nat} {bs : List UInt8} {ρ σ : Store} (h : St w bs ρ σ) {b : Nat} {x : AObj} (hb : sget b ρ = some x) : sget b σ = some x := by
  obtain ⟨o, h1, rfl, h3⟩ := h.ex
  exact SLe.append_right h3 b x hb

theorem St.number {w : Nat} {bs : List UInt8} {ρ σ : Store} (h : St w bs ρ σ) (n least : Int) (hl : bs.length < 2 ^ 38) :
    ACalls Try.prog 36 [.ptr w 1 0 0, .v (.int .i64 n), .v (.int .i64 least)] σ (fun e σ' =>
      if least ≤ n ∧ n < 2147483648 then e = .ret (.tup []) ∧ St w (bs ++ le (n % 4294967296).toNat 4) ρ σ'
      else e = .panic (.ifc 73 (.agg [.v (.int .i64 1)])) ∧ σ' = ρ) := by
  obtain ⟨o, h1, rfl, h3⟩ := h.ex
  refine ((number_w w o bs n least h1 hl).frame (SLe.append_left _ _) (SLe.append_right h3) h3).mono fun e σ' hR => ?_
  obtain ⟨σ1, hR, hap, rfl⟩ := hR
  split at hR
  · rename_i hc
    obtain ⟨rfl, o', h4, rfl⟩ := hR
    rw [if_pos hc]; exact ⟨rfl, ⟨o', h4, rfl, hap⟩⟩
  · rename_i hc
    obtain ⟨rfl, rfl⟩ := hR
    rw [if_neg hc]; exact ⟨rfl, rfl⟩

theorem St.text {w : Nat} {bs : List UInt8} {ρ σ : Store} (h : St w bs ρ σ) (s : ByteArray) (hl : bs.length < 2 ^ 38) (hs : s.size ≤ 65535) :
    ACalls Try.prog 35 [.ptr w 1 0 0, .v (.string s)] σ (fun e σ' => e = .ret (.tup []) ∧ St w (bs ++ tx s) ρ σ') := by
  obtain ⟨o, h1, rfl, h3⟩ := h.ex
  refine ((text_w w o bs s h1 hl hs).frame (SLe.append_left _ _) (SLe.append_right h3) h3).mono fun e σ' hR => ?_
  obtain ⟨σ1, ⟨rfl, o', h4, rfl⟩, hap, rfl⟩ := hR
  exact ⟨rfl, ⟨o', h4, rfl, hap⟩⟩
end Go.Ab.S21
