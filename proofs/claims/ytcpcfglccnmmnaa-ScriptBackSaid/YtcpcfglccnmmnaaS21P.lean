/- Layer 21: what acts are, as arguments. -/
import Derived.Test.YtcpcfglccnmmnaaS21G
import Derived.Test.YtcpcfglccnmmnaaAbR
set_option linter.unusedSimpArgs false
set_option linter.unusedVariables false
set_option linter.constructorNameAsVariable false
namespace Go.Ab
open Go
theorem list_of {α : Type} {f : α → D} : ∀ {xs : List D}, (∀ x ∈ xs, ∃ a, x = f a) → ∃ l : List α, xs = l.map f
  | [], _ => ⟨[], rfl⟩
  | x :: xs, h => by
    obtain ⟨a, ha⟩ := h x (by simp)
    obtain ⟨l, hl⟩ := list_of (f := f) (xs := xs) fun y hy => h y (by simp [hy])
    exact ⟨a :: l, by rw [ha, hl]; rfl⟩

theorem wt_bytes {ds : List D} (h : WT (.slice (.int .u8)) ds) : ∃ l : List UInt8, ds = [.slc (l.map bD)] := by
  unfold WT at h
  obtain ⟨xs, rfl, _, h⟩ := h
  obtain ⟨l, rfl⟩ := list_of (f := bD) (xs := xs) fun x hx => by
    obtain ⟨h1, _, h3⟩ := h x hx
    rw [h1 rfl] at h3
    unfold WT at h3
    obtain ⟨n, hn, hwf⟩ := h3
    cases hn
    have : 0 ≤ n ∧ n < 256 := by
      simp [Lit.wf, IntKind.min, IntKind.max, IntKind.signed, IntKind.bits] at hwf
      omega
    exact ⟨UInt8.ofNat n.toNat, by unfold bD; congr 2; simp; omega⟩
  exact ⟨l, rfl⟩
theorem wt_strs {ds : List D} (h : WT (.slice .str) ds) : ∃ l : List ByteArray, ds = [.slc (l.map fun s => .v (.string s))] := by
  unfold WT at h
  obtain ⟨xs, rfl, _, h⟩ := h
  obtain ⟨l, rfl⟩ := list_of (f := fun s : ByteArray => .v (.string s)) (xs := xs) fun x hx => by
    obtain ⟨h1, _, h3⟩ := h x hx
    rw [h1 rfl] at h3
    unfold WT at h3
    obtain ⟨n, hn, _⟩ := h3
    cases hn
    exact ⟨n, rfl⟩
  exact ⟨l, rfl⟩
theorem wt_ints {k : IntKind} {ds : List D} (h : WT (.slice (.int k)) ds) : ∃ l : List Int, ds = [.slc (l.map fun n => .v (.int k n))] := by
  unfold WT at h
  obtain ⟨xs, rfl, _, h⟩ := h
  obtain ⟨l, rfl⟩ := list_of (f := fun n : Int => .v (.int k n)) (xs := xs) fun x hx => by
    obtain ⟨h1, _, h3⟩ := h x hx
    rw [h1 rfl] at h3
    unfold WT at h3
    obtain ⟨n, hn, _⟩ := h3
    cases hn
    exact ⟨n, rfl⟩
  exact ⟨l, rfl⟩
end Go.Ab
namespace Go.Ab.S21
open Go Go.Proofs

def actT : Tp := .struct [.int .i64, .int .i64, .str, .slice (.int .u8), .slice .str, .slice (.int .i64)]

theorem wt_act {cs : List D} (h : WT actT cs) : ∃ x : XAct, D.agg cs = x.d := by
  unfold actT WT at h
  obtain ⟨a0, r0, rfl, h0, r⟩ := h
  obtain ⟨a1, r1, rfl, h1, r⟩ := r
  obtain ⟨a2, r2, rfl, h2, r⟩ := r
  obtain ⟨a3, r3, rfl, h3, r⟩ := r
  obtain ⟨a4, r4, rfl, h4, r⟩ := r
  obtain ⟨a5, r5, rfl, h5, r⟩ := r
  unfold WTs at r
  subst r
  obtain ⟨l3, rfl⟩ := wt_bytes h3
  obtain ⟨l4, rfl⟩ := wt_strs h4
  obtain ⟨l5, rfl⟩ := wt_ints h5
  unfold WT at h0 h1 h2
  obtain ⟨n0, rfl, _⟩ := h0
  obtain ⟨n1, rfl, _⟩ := h1
  obtain ⟨s2, rfl, _⟩ := h2
  exact ⟨⟨n0, n1, s2, l3, l4, l5⟩, rfl⟩

theorem wt_acts {d : D} (h : WTv (.slice actT) d) : ∃ l : List XAct, d = actsD l := by
  have h0 := h.1 rfl
  clear h
  unfold WT at h0
  obtain ⟨xs, he, _, hh⟩ := h0
  cases he
  obtain ⟨l, rfl⟩ := list_of (f := XAct.d) (xs := xs) fun x hx => by
    obtain ⟨_, h2, h3⟩ := hh x hx
    obtain ⟨cs, rfl⟩ := h2 rfl
    exact wt_act h3
  exact ⟨l, rfl⟩


theorem writes_true (xs : List D) (h : WTvs [.slice actT] xs) : ACalls Try.prog 3 xs [] (fun e _ => e = .ret (.v (.bool true))) := by
  obtain ⟨d, ds, rfl, h1, h2⟩ := h
  unfold WTvs at h2
  subst h2
  obtain ⟨l, rfl⟩ := wt_acts h1
  exact law_writes l

theorem joins_true (xs : List D) (h : WTvs [.slice actT, .slice actT] xs) : ACalls Try.prog 4 xs [] (fun e _ => e = .ret (.v (.bool true))) := by
  obtain ⟨d, ds, rfl, h1, h2⟩ := h
  obtain ⟨d2, ds2, rfl, h3, h4⟩ := h2
  unfold WTvs at h4
  subst h4
  obtain ⟨a, rfl⟩ := wt_acts h1
  obtain ⟨b, rfl⟩ := wt_acts h3
  exact law_joins a b
end Go.Ab.S21
