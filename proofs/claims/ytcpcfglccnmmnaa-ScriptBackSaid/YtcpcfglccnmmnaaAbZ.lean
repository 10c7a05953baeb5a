/- A drawn region in which two operations come up in either order. -/
import Derived.Test.YtcpcfglccnmmnaaAbR
set_option linter.unusedSimpArgs false
set_option linter.unusedVariables false
set_option linter.constructorNameAsVariable false
namespace Go.Ab
open Go

/-- A schedule with branches. -/
inductive Tr where
  | nil
  | op (i : Nat) (early : Bool) (rest : Tr)
  | alt (i j : Nat) (a b : Tr)

def Tr.len : Tr → Nat
  | .nil => 0
  | .op _ _ r => r.len + 1
  | .alt _ _ a b => max a.len b.len + 1

section draw
variable {P : Program} {N : Slots} {C : Ctx P N} {K : Env → Store → Prop} {Qp : D → Store → Prop}

def vcT (P : Program) (N : Slots) (lit bs lasts : List Nat) (ops : Array Oper) (K : Env → Store → Prop) (Qp : D → Store → Prop) : Tr → Env → Store → Prop
  | .nil, env, σ => K env σ
  | .op i early rest, env, σ => opK ops[i]? fun o =>
      if early = true then Fixed lit bs env o ∧ vcStep P N lit (dsts ops) Qp (vcT P N lit bs lasts ops K Qp rest) o env σ
      else vcStep P N lit (dsts ops) Qp (fun env' σ' => Keep bs lasts i σ σ' ∧ vcT P N lit bs lasts ops K Qp rest env' σ') o env σ
  | .alt i j a b, env, σ => (opK ops[i]? fun o => vcStep P N lit (dsts ops) Qp (fun env' σ' => Keep bs lasts i σ σ' ∧ vcT P N lit bs lasts ops K Qp a env' σ') o env σ) ∧
      opK ops[j]? fun o => vcStep P N lit (dsts ops) Qp (fun env' σ' => Keep bs lasts j σ σ' ∧ vcT P N lit bs lasts ops K Qp b env' σ') o env σ

section
variable {lit bs lasts : List Nat} {ops : Array Oper} {env : Env} {σ : Store}
@[go_sem] theorem vcT_nil : vcT P N lit bs lasts ops K Qp .nil env σ = K env σ := rfl
@[go_sem] theorem vcT_true (i : Nat) (r : Tr) : vcT P N lit bs lasts ops K Qp (.op i true r) env σ = opK ops[i]? fun o => Fixed lit bs env o ∧ vcStep P N lit (dsts ops) Qp (vcT P N lit bs lasts ops K Qp r) o env σ := by
  simp only [vcT, if_true]
@[go_sem] theorem vcT_false (i : Nat) (r : Tr) : vcT P N lit bs lasts ops K Qp (.op i false r) env σ = opK ops[i]? fun o => vcStep P N lit (dsts ops) Qp (fun env' σ' => Keep bs lasts i σ σ' ∧ vcT P N lit bs lasts ops K Qp r env' σ') o env σ := by
  simp only [vcT, Bool.false_eq_true, if_false]
@[go_sem] theorem vcT_alt (i j : Nat) (a b : Tr) : vcT P N lit bs lasts ops K Qp (.alt i j a b) env σ = ((opK ops[i]? fun o => vcStep P N lit (dsts ops) Qp (fun env' σ' => Keep bs lasts i σ σ' ∧ vcT P N lit bs lasts ops K Qp a env' σ') o env σ) ∧
      opK ops[j]? fun o => vcStep P N lit (dsts ops) Qp (fun env' σ' => Keep bs lasts j σ σ' ∧ vcT P N lit bs lasts ops K Qp b env' σ') o env σ) := rfl
end

def okT (lasts : List Nat) (ops : Array Oper) : Tr → Array Bool → Bool
  | .nil, listed => Region.ready .any ops listed == []
  | .op i early rest, listed =>
    (if early = true then (Region.ready .any ops listed).contains i && freeL lasts ops listed i else Region.ready .any ops listed == [i]) && okT lasts ops rest (listed.setIfInBounds i true)
  | .alt i j a b, listed => Region.ready .any ops listed == [i, j] && okT lasts ops a (listed.setIfInBounds i true) && okT lasts ops b (listed.setIfInBounds j true)

theorem vcT_any {lit bs lasts : List Nat} {ops : Array Oper} (hK : ∀ e e' σ, EEq e e' → K e σ → K e' σ) : ∀ (tr : Tr) (fuel : Nat) (listed : Array Bool) (env : Env) (σ : Store), okT lasts ops tr listed = true → tr.len ≤ fuel →
    vcT P N lit bs lasts ops K Qp tr env σ → vcAny P N lit bs lasts ops K Qp fuel listed env σ
  | .nil, fuel, listed, env, σ, hok, _, h => by
    have hr : Region.ready .any ops listed = [] := by simpa [okT] using hok
    cases fuel with
    | zero => exact ⟨hr, h⟩
    | succ n => exact ⟨fun _ => h, by rw [hr]; simp⟩
  | .op i early rest, 0, listed, env, σ, _, hl, _ => by simp [Tr.len] at hl
  | .alt i j a b, 0, listed, env, σ, _, hl, _ => by simp [Tr.len] at hl
  | .alt i j a b, fuel + 1, listed, env, σ, hok, hl, h => by
    simp only [okT, Bool.and_eq_true, beq_iff_eq] at hok
    obtain ⟨⟨h1, h2⟩, h3⟩ := hok
    have hla : a.len ≤ fuel := by simp only [Tr.len] at hl; omega
    have hlb : b.len ≤ fuel := by simp only [Tr.len] at hl; omega
    rw [vcT_alt] at h
    refine ⟨fun hr => (by rw [h1] at hr; cases hr), fun k hk => ?_⟩
    rw [h1] at hk
    simp only [List.mem_cons, List.not_mem_nil, or_false] at hk
    unfold opK at h
    unfold vcOp
    rcases hk with rfl | rfl
    · cases ho : ops[k]? with
      | none => rw [ho] at h; exact h.1.elim
      | some o =>
        rw [ho] at h
        exact vcStep_mono h.1 rfl (fun _ _ _ => rfl) fun d s hs => ⟨hs.1, vcT_any hK a fuel _ _ _ h2 hla hs.2⟩
    · cases ho : ops[k]? with
      | none => rw [ho] at h; exact h.2.elim
      | some o =>
        rw [ho] at h
        exact vcStep_mono h.2 rfl (fun _ _ _ => rfl) fun d s hs => ⟨hs.1, vcT_any hK b fuel _ _ _ h3 hlb hs.2⟩
  | .op i early rest, fuel + 1, listed, env, σ, hok, hl, h => by
    simp only [okT, Bool.and_eq_true] at hok
    obtain ⟨h1, h2⟩ := hok
    have hl' : rest.len ≤ fuel := by simp only [Tr.len] at hl; omega
    simp only [vcT, opK] at h
    split at h
    · cases early with
      | true =>
        rename_i o ho
        simp only [if_true, Bool.and_eq_true] at h1 h
        obtain ⟨hF, hN, hs⟩ := h
        have hsp := fixed_spec P lit bs env σ σ o hF fun _ _ => rfl
        have hval : ∀ {n : Env → Store → Prop}, vcRes P Qp n o.dst env σ (aopD P lit env σ o) → ∃ p d, aopD P lit env σ o = .val p d ∧ p ∧ n (eputo o.dst d env) σ := by
          intro n hv
          have hone := hsp.1
          cases hr : aopD P lit env σ o <;> rw [hr] at hv hone <;> try exact hone.elim
          · exact ⟨_, _, rfl, hv.1, hv.2⟩
          · exact hv.elim
        have key : ∃ d, Outc P lit (dsts ops) env σ o d ∧ vcT P N lit bs lasts ops K Qp rest (eputo o.dst d env) σ := by
          unfold Outc
          cases hg : o.guard with
          | none =>
            rw [hg] at hs
            obtain ⟨p, d, e1, e2, e3⟩ := hval hs
            exact ⟨d, ⟨p, e1, e2⟩, e3⟩
          | some q =>
            obtain ⟨j, want⟩ := q
            rw [hg] at hs
            dsimp only at hs ⊢
            split at hs
            · rename_i t ht
              by_cases htw : t = want
              · obtain ⟨p, d, e1, e2, e3⟩ := hval (hs.1 htw)
                exact ⟨d, .inl ⟨t, ht, fun _ => ⟨p, e1, e2⟩, fun h => by subst htw; cases t <;> cases h⟩, e3⟩
              · have htw' : t = !want := by cases t <;> cases want <;> simp_all
                exact ⟨_, .inl ⟨t, ht, fun h => absurd h htw, fun _ => rfl⟩, hs.2 htw'⟩
            · rename_i ht; exact ⟨_, .inr ⟨ht, rfl⟩, hs⟩
            · exact hs.elim
        obtain ⟨d, hO, hn⟩ := key
        exact vcAny_first hK ho hN fuel listed env σ (freeL_spec ho h1.2) (by simpa using h1.1) hF hO (vcT_any hK rest fuel _ _ _ h2 hl' hn)
      | false =>
        rename_i o ho
        simp only [Bool.false_eq_true, if_false, beq_iff_eq] at h1 h
        refine ⟨fun hr => (by rw [h1] at hr; cases hr), fun j hj => ?_⟩
        rw [h1] at hj
        simp only [List.mem_singleton] at hj
        subst hj
        unfold vcOp
        rw [ho]
        exact vcStep_mono h rfl (fun _ _ _ => rfl) fun d s hs => ⟨hs.1, vcT_any hK rest fuel _ _ _ h2 hl' hs.2⟩
    · exact h.elim

/-- A region whose order is drawn, with branches. -/
theorem Goes.drawT {id : Nat} {ops : Array Oper} {k : List Item} {env : Env} {σ : Store} (keep lit bs lasts : List Nat) (tr : Tr) (hm : P.follows .mixedOrders = true) (hl : tr.len ≤ ops.size) (hok : okT lasts ops tr (Array.replicate ops.size false) = true)
    (h : ∀ K : Env → Store → Prop, (∀ env σ, Goes C k env σ → K env σ) → vcT P N lit bs lasts ops K (Pan C) tr (Ab.rebase keep env) σ) : Goes C (.code (.region id ops true) :: k) env σ := by
  intro a w S hd hs
  have hv := vcT_any (Qp := Pan C) (K := Goes C k) (fun e e' s he hg => Goes.le (fun k => .inr (he k)) (SLe.refl s) hg) tr ops.size (Array.replicate ops.size false) _ _ hok hl (h (Goes C k) (fun _ _ h => h))
  have hs' : Sim C (Ab.rebase keep env) σ w S a.tmps := ⟨hs.env.le (ele_rebase keep env), hs.store, hs.fr, hs.size⟩
  have hl := vcAny_sound ops.size _ _ σ a _ S hv hd (hs'.draw (w.drawn + 1))
  have hwp := wp_region_any (id := id) hm hl
  exact region_arrives (hwp C.b k C.cs)
end draw
end Go.Ab
