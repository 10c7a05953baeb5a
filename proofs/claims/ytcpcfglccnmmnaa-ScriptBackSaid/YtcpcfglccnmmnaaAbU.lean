/- The rule for a region whose order is drawn. -/
import Derived.Test.YtcpcfglccnmmnaaAbT
import Derived.Orders
set_option linter.unusedSimpArgs false
set_option linter.unusedVariables false
set_option linter.constructorNameAsVariable false
namespace Go.Ab
open Go

def inB (bs : List Nat) : D → Prop
  | .ptr b _ _ _ => b ∈ bs
  | .own (some b) _ _ => b ∈ bs
  | .map b => b ∈ bs
  | _ => True

def isNone : D → Prop
  | .own none _ _ => True
  | .v (.slice none 0 0) => True
  | _ => False

def noSl : D → Prop
  | .slc _ | .own _ _ _ => False
  | _ => True

/-- The operation turns no store, and reads no row but those of 'bs'. -/
def Fixed (lit bs : List Nat) (env : Env) (o : Oper) : Prop :=
  match o.op with
  | .move _ | .assign _ | .pick _ _ _ | .build _ _ | .nilCheck _ | .unOp _ _ _ | .makeFunc _ _ _ | .makeInterface _ _ | .slice _ _ _ _ _ | .fieldAddr _ _ _ | .field _ _ _ | .indexAddr _ _ _ | .index _ _ _ | .typeAssert _ _ _ _ | .extract _ _ => True
  | .binOp _ _ x y _ => noSl (ev env x) ∧ noSl (ev env y)
  | .buildSlice _ _ _ => litB lit o = true
  | .load _ x => inB bs (ev env x)
  | .lookup _ m _ _ => inB bs (ev env m)
  | .convert _ _ x => inB bs (ev env x) ∧ match ev env x with | .v (.string _) => litB lit o = true | _ => True
  | .call c =>
    match c.callee with
    | .builtin .len => match c.args.toList.map (ev env) with | [x] => inB bs x | _ => False
    | .builtin .append => litB lit o = true ∧ match c.args.toList.map (ev env) with | [s, x] => isNone s ∧ inB bs x | _ => False
    | _ => False
  | _ => False

theorem vals_map_congr {α : Type} {f g : α → Operand} {env env' : Env} (l : List (Nat × Operand)) (h : ∀ x ∈ l.map (·.2), ev env x = ev env' x) : (l.map fun p => (p.1, ev env p.2)) = l.map fun p => (p.1, ev env' p.2) :=
  List.map_congr_left fun p hp => by rw [h p.2 (List.mem_map_of_mem hp)]

theorem evs_congr {env env' : Env} (l : List Operand) (h : ∀ x ∈ l, ev env x = ev env' x) : l.map (ev env) = l.map (ev env') := List.map_congr_left h

theorem aop_congr (P : Program) {env env' : Env} (σ : Store) (op : Op) (h : ∀ x ∈ op.operands, ev env x = ev env' x) : aop P env σ op = aop P env' σ op := by
  cases op <;> simp only [Op.operands] at h <;> simp only [aop]
  case build T ps => rw [vals_map_congr (f := id) (g := id) ps.toList (fun x hx => h x (by simpa using hx))]
  case buildSlice T n ps => rw [vals_map_congr (f := id) (g := id) ps.toList (fun x hx => h x (by simpa using hx))]
  case makeFunc fn first captured =>
    rw [evs_congr first.toList fun x hx => h x (by simp at hx ⊢; exact .inl hx), evs_congr captured.toList fun x hx => h x (by simp at hx ⊢; exact .inr hx)]
  case call c =>
    cases hc : c.callee with
    | builtin b => simp only []; rw [evs_congr c.args.toList fun x hx => h x (by simp [Call.operands] at hx ⊢; exact .inr hx)]
    | value f =>
      simp only []
      rw [evs_congr c.args.toList fun x hx => h x (by simp [Call.operands] at hx ⊢; exact .inr hx), h f (by simp [Call.operands, hc])]
    | invoke r m => rfl
  case makeMap T r => cases r <;> rfl
  case slice T x lo hi mx => cases lo <;> cases hi <;> cases mx <;> simp_all
  all_goals (first | rfl | (simp_all; done))

theorem aopD_congr (P : Program) (lit : List Nat) {env env' : Env} (σ : Store) (o : Oper) (h : ∀ x ∈ o.op.operands, ev env x = ev env' x) : aopD P lit env σ o = aopD P lit env' σ o := by
  unfold aopD aopL
  rw [aop_congr P σ o.op h]
  split
  · split
    · rfl
    · rename_i hop; rw [aop_congr P σ o.op h]
  · rfl

theorem inB_congr {bs : List Nat} {x y : D} (h : x = y) : inB bs x ↔ inB bs y := by rw [h]

theorem fixed_congr (lit bs : List Nat) {env env' : Env} (o : Oper) (h : ∀ x ∈ o.op.operands, ev env x = ev env' x) (hf : Fixed lit bs env o) : Fixed lit bs env' o := by
  have ha : ∀ c : Call, o.op = .call c → c.args.toList.map (ev env) = c.args.toList.map (ev env') := fun c hc => evs_congr c.args.toList fun x hx => h x (by
    rw [hc]; simp [Op.operands, Call.operands] at hx ⊢; exact .inr hx)
  unfold Fixed at *
  cases hop : o.op <;> rw [hop] at hf h <;> dsimp only at hf ⊢ <;> try trivial
  case load T x => rw [← h x (by simp [Op.operands])]; exact hf
  case lookup T x y ok => rw [← h x (by simp [Op.operands])]; exact hf
  case binOp op T x y T2 => rw [← h x (by simp [Op.operands]), ← h y (by simp [Op.operands])]; exact hf
  case convert s d x => rw [← h x (by simp [Op.operands])]; exact hf
  case call c => rw [← ha c hop]; exact hf

def oneVal : ARes → Prop
  | .val _ _ | .bad => True
  | _ => False

theorem scal_one (P : Program) (s : Sem Value) : oneVal (scal P s) := by
  unfold scal; split <;> (try split) <;> trivial

/-- What such an operation comes to is a value, the same wherever the rows of 'bs' are the same. -/
theorem fixed_spec (P : Program) (lit bs : List Nat) (env : Env) (σ σ' : Store) (o : Oper) (hf : Fixed lit bs env o) (hσ : ∀ b ∈ bs, sget b σ' = sget b σ) : oneVal (aopD P lit env σ o) ∧ aopD P lit env σ' o = aopD P lit env σ o := by
  have hro : ∀ r, oneVal r → oneVal (roRes r) := fun r h => by cases r <;> first | trivial | exact h.elim
  have hoget : ∀ sz ob n, inB bs (.own ob sz n) → oget sz ob σ' = oget sz ob σ := by
    intro sz ob n h
    cases ob with
    | none => rfl
    | some b => simp only [oget]; rw [hσ b h]
  have hload : ∀ T x, inB bs x → oneVal (aLoad P σ T x) ∧ aLoad P σ' T x = aLoad P σ T x := by
    intro T x hx
    unfold aLoad
    cases hr : rsize P T with
    | none => exact ⟨trivial, rfl⟩
    | some n =>
      cases hg : ragg P T with
      | none => exact ⟨trivial, rfl⟩
      | some g =>
        cases x with
        | ptr b sz i off =>
          simp only []
          rw [hσ b hx]
          refine ⟨?_, rfl⟩
          split <;> trivial
        | elt cs => exact ⟨trivial, rfl⟩
        | _ => exact ⟨trivial, rfl⟩
  have hfound : ∀ d z ok k es, oneVal (aFound d z ok k es) := fun _ _ _ _ _ => trivial
  have hlook : ∀ T m k ok, inB bs m → oneVal (aLookup P σ T m k ok) ∧ aLookup P σ' T m k ok = aLookup P σ T m k ok := by
    intro T m k ok hm
    unfold aLookup
    split
    · split
      · rename_i b _
        rw [hσ b hm]
        refine ⟨?_, rfl⟩
        split <;> trivial
      · exact ⟨trivial, rfl⟩
      · exact ⟨trivial, rfl⟩
    · exact ⟨trivial, rfl⟩
  have hlen : ∀ T x, inB bs x → oneVal (aLen P σ T x) ∧ aLen P σ' T x = aLen P σ T x := by
    intro T x hx
    unfold aLen
    split <;> try exact ⟨trivial, rfl⟩
    rename_i b
    rw [hσ b hx]
    refine ⟨?_, rfl⟩
    split <;> trivial
  have hsrc : ∀ x, inB bs x → srcOf σ' x = srcOf σ x := by
    intro x hx
    unfold srcOf
    split <;> try rfl
    rename_i ob sz n
    rw [hoget sz ob n hx]
  have happ : ∀ T T2 s x, isNone s → inB bs x → oneVal (roRes (aAppend P σ T T2 s x)) ∧ aAppend P σ' T T2 s x = aAppend P σ T T2 s x := by
    intro T T2 s x hs hx
    have h2 : (∃ sz k, s = .own none sz k) ∨ s = .v (.slice none 0 0) := by
      unfold isNone at hs
      split at hs
      · exact .inl ⟨_, _, rfl⟩
      · exact .inr rfl
      · exact hs.elim
    unfold aAppend
    rw [hsrc x hx]
    rcases h2 with ⟨sz, k, rfl⟩ | rfl
    · refine ⟨?_, rfl⟩
      split
      · split <;> trivial
      · trivial
    · refine ⟨?_, rfl⟩
      split
      · split <;> trivial
      · trivial
  have hconv : ∀ s d x, inB bs x → ((∀ t, x ≠ .v (.string t)) → oneVal (aConv P σ s d x)) ∧ oneVal (roRes (aConv P σ s d x)) ∧ aConv P σ' s d x = aConv P σ s d x := by
    intro s d x hx
    unfold aConv
    split
    · exact ⟨fun _ => trivial, trivial, rfl⟩
    · rename_i ob sz n
      have h1 : oget 1 ob σ' = oget 1 ob σ := by
        cases ob with
        | none => rfl
        | some b => simp only [oget]; rw [hσ b hx]
      rw [h1]
      refine ⟨fun _ => ?_, ?_, rfl⟩
      · split <;> trivial
      · split <;> trivial
    · rename_i t
      refine ⟨fun h => absurd rfl (h t), ?_, rfl⟩
      split
      · trivial
      · exact hro _ (scal_one ..)
    · exact ⟨fun _ => scal_one .., hro _ (scal_one ..), rfl⟩
    · exact ⟨fun _ => trivial, trivial, rfl⟩
  have hmain : ∀ op, o.op = op → (∀ T n ps, op ≠ .buildSlice T n ps) → (litB lit o = true → oneVal (roRes (aop P env σ op))) → (litB lit o = false → oneVal (aop P env σ op)) → aop P env σ' op = aop P env σ op → oneVal (aopD P lit env σ o) ∧ aopD P lit env σ' o = aopD P lit env σ o := by
    intro op hop hne h1 h2 h3
    have e : ∀ s, aopD P lit env s o = if litB lit o = true then roRes (aop P env s op) else aop P env s op := by
      intro s
      unfold aopD aopL
      rw [hop]
      split
      · split
        · exact absurd rfl (hne _ _ _)
        · rfl
      · rfl
    rw [e, e, h3]
    refine ⟨?_, rfl⟩
    split
    · rename_i h; exact h1 h
    · rename_i h; exact h2 (by simpa using h)
  have hsimple : ∀ op, o.op = op → (∀ T n ps, op ≠ .buildSlice T n ps) → oneVal (aop P env σ op) → aop P env σ' op = aop P env σ op → oneVal (aopD P lit env σ o) ∧ aopD P lit env σ' o = aopD P lit env σ o :=
    fun op hop hne h1 h2 => hmain op hop hne (fun _ => hro _ h1) (fun _ => h1) h2
  unfold Fixed at hf
  cases hop : o.op <;> rw [hop] at hf <;> dsimp only at hf <;> try exact hf.elim
  case move x => exact hsimple _ hop (by simp) trivial rfl
  case assign x => exact hsimple _ hop (by simp) trivial rfl
  case pick c x y => exact hsimple _ hop (by simp) (by simp only [aop, aPick]; split <;> trivial) rfl
  case build T ps => exact hsimple _ hop (by simp) (by simp only [aop, aBuild]; repeat (first | trivial | split)) rfl
  case buildSlice T n ps =>
    have e : ∀ s, aopD P lit env s o = aopL P true env s o.op := fun s => by unfold aopD; rw [hf]
    rw [e, e, hop]
    have e2 : ∀ s, aopL P true env s (.buildSlice T n ps) = if n = 0 then (if ps.toList = [] then aBuild0 P T else .bad) else roRes (aop P env σ (.buildSlice T n ps)) := by
      intro s
      unfold aopL
      cases n with
      | zero => rfl
      | succ n => rfl
    rw [e2, e2]
    refine ⟨?_, rfl⟩
    split
    · split
      · unfold aBuild0; split <;> trivial
      · trivial
    · simp only [aop, aBuildSlice]
      repeat (first | trivial | split)
  case nilCheck x => exact hsimple _ hop (by simp) (by simp only [aop, aNilCheck]; split <;> trivial) rfl
  case binOp op T x y T2 => exact hsimple _ hop (by simp) (by
      simp only [aop, aBin]
      split
      · trivial
      · trivial
      unfold aBin0
      split
      · exact scal_one ..
      · split
        · trivial
        · trivial
        · have : aNil (P.underlying T) (ev env x) (ev env y) = none := by
            unfold aNil
            split
            · rename_i hx _; rw [hx] at hf; exact hf.1.elim
            · rename_i hx _; rw [hx] at hf; exact hf.1.elim
            · rfl
          rw [this]
          split <;> first | trivial | (rename_i h; cases h)) rfl
  case unOp op T x => exact hsimple _ hop (by simp) (by simp only [aop, aUn]; split; exact scal_one ..; trivial) rfl
  case makeInterface T x => exact hsimple _ hop (by simp) trivial rfl
  case makeFunc fn f c => exact hsimple _ hop (by simp) trivial rfl
  case slice T x lo hi mx => exact hsimple _ hop (by simp) (by simp only [aop, aSlice]; repeat (first | trivial | split)) rfl
  case fieldAddr T x f => exact hsimple _ hop (by simp) (by simp only [aop, aFieldAddr]; repeat (first | trivial | split)) rfl
  case field T x f => exact hsimple _ hop (by simp) (by simp only [aop, aField]; repeat (first | trivial | split)) rfl
  case indexAddr T x y => exact hsimple _ hop (by simp) (by simp only [aop, aIndexAddr]; repeat (first | trivial | split)) rfl
  case index T x y => exact hsimple _ hop (by simp) (by simp only [aop, aIndex]; repeat (first | trivial | split)) rfl
  case typeAssert x T' T ok => exact hsimple _ hop (by simp) (by simp only [aop, aTA]; repeat (first | trivial | split)) rfl
  case extract x i => exact hsimple _ hop (by simp) (by simp only [aop, aExtract]; repeat (first | trivial | split)) rfl
  case load T x =>
    obtain ⟨h1, h2⟩ := hload T _ hf
    exact hsimple _ hop (by simp) h1 h2
  case lookup T x y ok =>
    obtain ⟨h1, h2⟩ := hlook T _ (ev env y) ok hf
    exact hsimple _ hop (by simp) h1 h2
  case convert s d x =>
    obtain ⟨h1, h2, h3⟩ := hconv s d _ hf.1
    refine hmain _ hop (by simp) (fun _ => h2) (fun hl => h1 fun t ht => ?_) h3
    have := hf.2
    rw [ht] at this
    simp only [] at this
    rw [hl] at this
    cases this
  case call c =>
    split at hf
    · rename_i hc
      have e : ∀ s, aop P env s (.call c) = aBuiltin P s .len c.argTypes (c.args.toList.map (ev env)) := fun s => by simp only [aop, hc]
      split at hf
      · rename_i x hx
        rw [hx] at e
        refine hsimple _ hop (by simp) ?_ ?_
        · rw [e]
          simp only [aBuiltin]
          split
          · exact (hlen _ x hf).1
          · trivial
        · rw [e, e]
          simp only [aBuiltin]
          split
          · exact (hlen _ x hf).2
          · rfl
      · exact hf.elim
    · rename_i hc
      have e : ∀ s, aop P env s (.call c) = aBuiltin P s .append c.argTypes (c.args.toList.map (ev env)) := fun s => by simp only [aop, hc]
      obtain ⟨hl, hf⟩ := hf
      split at hf
      · rename_i x y hx
        rw [hx] at e
        refine hmain _ hop (by simp) (fun _ => ?_) (fun h => by rw [hl] at h; cases h) ?_
        · rw [e]
          simp only [aBuiltin]
          split
          · exact (happ _ _ x y hf.1 hf.2).1
          · trivial
        · rw [e, e]
          simp only [aBuiltin]
          split
          · exact (happ _ _ x y hf.1 hf.2).2
          · rfl
      · exact hf.elim
    · exact hf.elim

section draw
variable {P : Program} {N : Slots} {C : Ctx P N} {K : Env → Store → Prop} {Qp : D → Store → Prop}

def EEq (e e' : Env) : Prop := ∀ k, eget k e = eget k e'
theorem EEq.refl (e : Env) : EEq e e := fun _ => rfl
theorem EEq.put {e e' : Env} (h : EEq e e') (dst : Option Nat) (d : D) : EEq (eputo dst d e) (eputo dst d e') := by
  cases dst with
  | none => exact h
  | some k => intro j; simp only [eputo, eget_eput, h j]
theorem EEq.ev {e e' : Env} (h : EEq e e') (x : Operand) : ev e x = ev e' x := by cases x <;> first | rfl | exact h _
theorem EEq.comm {x y : Option Nat} (e : Env) (d d' : D) (h : ∀ k, x = some k → y ≠ some k) : EEq (eputo x d (eputo y d' e)) (eputo y d' (eputo x d e)) := by
  cases x with
  | none => exact .refl _
  | some k =>
    cases y with
    | none => exact .refl _
    | some l =>
      have hkl : l ≠ k := fun he => h k rfl (by rw [he])
      intro j
      simp only [eputo, eget_eput]
      by_cases h1 : j = k
      · subst h1; simp [Ne.symm hkl]
      · simp [h1]
theorem EEq.gd {e e' : Env} (h : EEq e e') (ds : List (Option Nat)) (j : Nat) : gd e ds j = gd e' ds j := by
  unfold Ab.gd
  split
  · exact h _
  · rfl

theorem vcRes_mono {n1 n2 : Env → Store → Prop} {dst : Option Nat} {e e' : Env} {σ : Store} {r : ARes} (h : vcRes P Qp n1 dst e σ r) (hn : ∀ d s, n1 (eputo dst d e) s → n2 (eputo dst d e') s) : vcRes P Qp n2 dst e' σ r := by
  cases r with
  | val p d => exact ⟨h.1, hn _ _ h.2⟩
  | nd ok f => exact fun t ht => hn _ _ (h t ht)
  | upd p d s => exact ⟨h.1, hn _ _ h.2⟩
  | new p o mk => exact ⟨h.1, fun b hb => hn _ _ (h.2 b hb)⟩
  | app p b sz xs => exact ⟨h.1, fun ob h1 h2 => hn _ _ (h.2 ob h1 h2)⟩
  | enter f as =>
    obtain ⟨g, hg, hc⟩ := h
    refine ⟨g, hg, hc.mono fun ae s hs => ?_⟩
    cases ae with
    | ret d => exact hn _ _ hs
    | panic d => exact hs
  | panic d => exact h
  | bad => exact h

def vcStep (P : Program) (N : Slots) (lit : List Nat) (ds : List (Option Nat)) (Qp : D → Store → Prop) (next : Env → Store → Prop) (o : Oper) (env : Env) (σ : Store) : Prop :=
  dstB N o.dst ∧
  match o.guard with
  | none => vcRes P Qp next o.dst env σ (aopD P lit env σ o)
  | some (j, want) =>
    match gd env ds j with
    | .v (.bool t) => (t = want → vcRes P Qp next o.dst env σ (aopD P lit env σ o)) ∧ (t = !want → next (eputo o.dst (.tup []) env) σ)
    | .tup [] => next (eputo o.dst (.tup []) env) σ
    | _ => False

theorem vcStep_mono {lit : List Nat} {ds : List (Option Nat)} {n1 n2 : Env → Store → Prop} {o : Oper} {e e' : Env} {σ : Store} (h : vcStep P N lit ds Qp n1 o e σ) (ha : aopD P lit e' σ o = aopD P lit e σ o) (hg : ∀ j w, o.guard = some (j, w) → gd e' ds j = gd e ds j)
    (hn : ∀ d s, n1 (eputo o.dst d e) s → n2 (eputo o.dst d e') s) : vcStep P N lit ds Qp n2 o e' σ := by
  obtain ⟨h0, h⟩ := h
  refine ⟨h0, ?_⟩
  cases hgd : o.guard with
  | none => rw [hgd] at h; dsimp only at h ⊢; rw [ha]; exact vcRes_mono h hn
  | some p =>
    obtain ⟨j, want⟩ := p
    rw [hgd] at h
    dsimp only at h ⊢
    rw [hg j want hgd, ha]
    split at h
    · exact ⟨fun ht => vcRes_mono (h.1 ht) hn, fun ht => hn _ _ (h.2 ht)⟩
    · exact hn _ _ h
    · exact h

def vcOp (P : Program) (N : Slots) (lit : List Nat) (ops : Array Oper) (Qp : D → Store → Prop) (i : Nat) (next : Env → Store → Prop) (env : Env) (σ : Store) : Prop :=
  match ops[i]? with
  | none => next env σ
  | some o => vcStep P N lit (dsts ops) Qp next o env σ

def Keep (bs lasts : List Nat) (i : Nat) (σ σ' : Store) : Prop := lasts.contains i = true ∨ ∀ b ∈ bs, sget b σ' = sget b σ

def vcAny (P : Program) (N : Slots) (lit bs lasts : List Nat) (ops : Array Oper) (K : Env → Store → Prop) (Qp : D → Store → Prop) : Nat → Array Bool → Env → Store → Prop
  | 0, listed, env, σ => Region.ready .any ops listed = [] ∧ K env σ
  | fuel + 1, listed, env, σ => (Region.ready .any ops listed = [] → K env σ) ∧
    ∀ i ∈ Region.ready .any ops listed, vcOp P N lit ops Qp i (fun env' σ' => Keep bs lasts i σ σ' ∧ vcAny P N lit bs lasts ops K Qp fuel (listed.setIfInBounds i true) env' σ') env σ

theorem vcStep_sound {lit : List Nat} {ops : Array Oper} {o : Oper} {next : Env → Store → Prop} {env : Env} {σ : Store} {a : Act} {w : World} {S : Nat → Prop} {nx : Act → World → Prop} (h : vcStep P N lit (dsts ops) Qp next o env σ) (hd : a.defers = C.ds) (hs : Sim C env σ w S a.tmps)
    (hnx : ∀ a w, NX C next a w → nx a w) : if Region.wanted o (yielded ops a.tmps) then o.wp P a w nx (QX C K Qp) ∨ (o.asks P a w ∧ LetsOut (QX C K Qp)) else nx (a.put o.dst undef) w := by
  obtain ⟨hN, h⟩ := h
  have hN' := dstB_ok hN
  cases hg : o.guard with
  | none =>
    rw [hg] at h
    have hw : Region.wanted o (yielded ops a.tmps) = true := by simp [Region.wanted, hg]
    rw [if_pos hw]
    exact .inl (op_soundD hs hd hN' hnx h)
  | some p =>
    obtain ⟨j, want⟩ := p
    rw [hg] at h
    dsimp only at h
    split at h
    · rename_i t ht
      obtain ⟨h1, h2⟩ := h
      have hy := yielded_eq hs.env ht
      have hw : Region.wanted o (yielded ops a.tmps) = (t == want) := by simp [Region.wanted, hg, hy]
      by_cases htw : t = want
      · rw [if_pos (by rw [hw, htw]; simp)]
        exact .inl (op_soundD hs hd hN' hnx (h1 htw))
      · have htw' : t = !want := by cases t <;> cases want <;> simp_all
        rw [if_neg (by rw [hw]; simpa using htw)]
        exact hnx _ _ ⟨by rw [put_defers]; exact hd, _, _, _, h2 htw', sim_put hs hN' (.tup .nil) hs.store (Fr.refl σ hs.fr.lt)⟩
    · rename_i ht
      have hy := yielded_none hs.env ht
      have hw : Region.wanted o (yielded ops a.tmps) = false := by simp [Region.wanted, hg, hy]
      rw [if_neg (by rw [hw]; simp)]
      exact hnx _ _ ⟨by rw [put_defers]; exact hd, _, _, _, h, sim_put hs hN' (.tup .nil) hs.store (Fr.refl σ hs.fr.lt)⟩
    · exact h.elim

theorem vcAny_sound {lit bs lasts : List Nat} {ops : Array Oper} : ∀ (fuel : Nat) (listed : Array Bool) (env : Env) (σ : Store) (a : Act) (w : World) (S : Nat → Prop), vcAny P N lit bs lasts ops K Qp fuel listed env σ → a.defers = C.ds → Sim C env σ w S a.tmps →
    wpAny P .any ops (QX C K Qp) fuel listed a w
  | 0, listed, env, σ, a, w, S, h, hd, hs => ⟨h.1, hd, env, σ, S, h.2, hs⟩
  | fuel + 1, listed, env, σ, a, w, S, h, hd, hs => by
    refine ⟨fun hr => ⟨hd, env, σ, S, h.1 hr, hs⟩, fun i hi => ?_⟩
    have h1 := h.2 i hi
    unfold vcOp at h1
    unfold wpOp
    have hnx : ∀ a w, NX C (fun env' σ' => Keep bs lasts i σ σ' ∧ vcAny P N lit bs lasts ops K Qp fuel (listed.setIfInBounds i true) env' σ') a w → wpAny P .any ops (QX C K Qp) fuel (listed.setIfInBounds i true) a w :=
      fun a w ⟨hd, env', σ', S', hn, hs'⟩ => vcAny_sound fuel _ env' σ' a w S' hn.2 hd hs'
    cases ho : ops[i]? with
    | none => rw [ho] at h1; exact vcAny_sound fuel _ env σ a w S h1.2 hd hs
    | some o => rw [ho] at h1; exact vcStep_sound h1 hd hs hnx

theorem vcAny_congr {lit bs lasts : List Nat} {ops : Array Oper} (hK : ∀ e e' σ, EEq e e' → K e σ → K e' σ) : ∀ (fuel : Nat) (listed : Array Bool) (e e' : Env) (σ : Store), EEq e e' → vcAny P N lit bs lasts ops K Qp fuel listed e σ → vcAny P N lit bs lasts ops K Qp fuel listed e' σ
  | 0, listed, e, e', σ, he, h => ⟨h.1, hK _ _ _ he h.2⟩
  | fuel + 1, listed, e, e', σ, he, h => by
    refine ⟨fun hr => hK _ _ _ he (h.1 hr), fun i hi => ?_⟩
    have h1 := h.2 i hi
    unfold vcOp at h1 ⊢
    split at h1
    · exact ⟨h1.1, vcAny_congr hK fuel _ _ _ _ he h1.2⟩
    · exact vcStep_mono h1 (aopD_congr P lit σ _ fun x _ => (he.ev x).symm) (fun j w _ => (he.gd _ j).symm) fun d s hs => ⟨hs.1, vcAny_congr hK fuel _ _ _ _ (he.put _ d) hs.2⟩

/-- What an operation that is taken early comes to. -/
def Outc (P : Program) (lit : List Nat) (ds : List (Option Nat)) (env : Env) (σ : Store) (o : Oper) (d : D) : Prop :=
  match o.guard with
  | none => ∃ p, aopD P lit env σ o = .val p d ∧ p
  | some (j, want) => (∃ t, gd env ds j = .v (.bool t) ∧ (t = want → ∃ p, aopD P lit env σ o = .val p d ∧ p) ∧ (t = !want → d = .tup [])) ∨ (gd env ds j = .tup [] ∧ d = .tup [])

theorem Outc.step {lit : List Nat} {ds : List (Option Nat)} {env : Env} {σ : Store} {o : Oper} {d : D} {next : Env → Store → Prop} (h : Outc P lit ds env σ o d) (hN : dstB N o.dst) (hn : next (eputo o.dst d env) σ) : vcStep P N lit ds Qp next o env σ := by
  refine ⟨hN, ?_⟩
  unfold Outc at h
  cases hg : o.guard with
  | none => rw [hg] at h; obtain ⟨p, h1, h2⟩ := h; dsimp only; rw [h1]; exact ⟨h2, hn⟩
  | some q =>
    obtain ⟨j, want⟩ := q
    rw [hg] at h
    dsimp only
    rcases h with ⟨t, h1, h2, h3⟩ | ⟨h1, rfl⟩
    · rw [h1]
      exact ⟨fun ht => by obtain ⟨p, h4, h5⟩ := h2 ht; rw [h4]; exact ⟨h5, hn⟩, fun ht => by rw [← h3 ht]; exact hn⟩
    · rw [h1]; exact hn

theorem ev_put {dst : Option Nat} {d : D} {env : Env} {x : Operand} (h : ∀ k, dst = some k → x ≠ .tmp k) : ev (eputo dst d env) x = ev env x := by
  cases dst with
  | none => rfl
  | some k =>
    cases x with
    | tmp t =>
      have : t ≠ k := fun e => h k rfl (by rw [e])
      simp only [ev, eputo, eget_eput, if_neg this]
    | _ => rfl

theorem looks_ev {ops : Array Oper} {o : Oper} {dst : Option Nat} {d : D} {env : Env} (h : ∀ k, dst = some k → k ∉ o.looksAt ops) : ∀ x ∈ o.op.operands, ev (eputo dst d env) x = ev env x := fun x hx => ev_put fun k hk hxk => h k hk (by
  subst hxk
  exact List.mem_append_left _ (List.mem_filterMap.2 ⟨.tmp k, by simpa using hx, rfl⟩))

theorem looks_gd {ops : Array Oper} {o : Oper} {dst : Option Nat} {d : D} {env : Env} (h : ∀ k, dst = some k → k ∉ o.looksAt ops) (j : Nat) (w : Bool) (hg : o.guard = some (j, w)) : gd (eputo dst d env) (dsts ops) j = gd env (dsts ops) j := by
  unfold gd
  split
  · rename_i t ht
    refine ev_put (x := .tmp t) fun k hk he => h k hk ?_
    cases he
    refine List.mem_append_right _ ?_
    unfold dsts at ht
    simp only [List.getElem?_map, Array.getElem?_toList, Option.map_eq_some_iff] at ht
    obtain ⟨o', ho', hd'⟩ := ht
    simp [hg, ho', hd']
  · rfl

theorem vcAny_first {lit bs lasts : List Nat} {ops : Array Oper} (hK : ∀ e e' σ, EEq e e' → K e σ → K e' σ) {i : Nat} {oi : Oper} {d : D} (hi : ops[i]? = some oi) (hN : dstB N oi.dst) : ∀ (fuel : Nat) (listed : Array Bool) (env : Env) (σ : Store),
    (∀ j oj, ops[j]? = some oj → j ≠ i → listed.getD j true = false → (∀ e ∈ oj.after, Region.binds .any e = true → e.on ≠ i) → oi.apart ops oj = true ∧ lasts.contains j = false) →
    i ∈ Region.ready .any ops listed → Fixed lit bs env oi → Outc P lit (dsts ops) env σ oi d →
    vcAny P N lit bs lasts ops K Qp fuel (listed.setIfInBounds i true) (eputo oi.dst d env) σ → vcAny P N lit bs lasts ops K Qp (fuel + 1) listed env σ := by
  intro fuel
  induction fuel with
  | zero =>
    intro listed env σ _ hr hF hO H
    refine ⟨fun h => (by rw [h] at hr; cases hr), fun j hj => ?_⟩
    by_cases hji : j = i
    · subst hji
      unfold vcOp
      rw [hi]
      exact hO.step hN ⟨.inr fun _ _ => rfl, H⟩
    · have := ready_mono hj hji
      rw [H.1] at this
      cases this
  | succ fuel ih =>
    intro listed env σ hfree hr hF hO H
    refine ⟨fun h => (by rw [h] at hr; cases hr), fun j hj => ?_⟩
    by_cases hji : j = i
    · subst hji
      unfold vcOp
      rw [hi]
      exact hO.step hN ⟨.inr fun _ _ => rfl, H⟩
    · have h1 := H.2 j (ready_mono hj hji)
      obtain ⟨hjun, oj, hoj, hall⟩ := mem_ready.1 hj
      have hnot : ∀ e ∈ oj.after, Region.binds .any e = true → e.on ≠ i := fun e he hb heq => by
        have h1 := hall e he hb
        have h0 := (mem_ready.1 hr).1
        rw [heq] at h1
        rcases Nat.lt_or_ge i listed.size with h' | h'
        · simp [h'] at h0 h1; rw [h0] at h1; cases h1
        · simp [Array.getElem?_eq_none h'] at h1
      obtain ⟨hap, hlast⟩ := hfree j oj hoj hji hjun hnot
      obtain ⟨a1, a2, a3⟩ := Oper.apart_spec hap
      have hfree' : ∀ k ok, ops[k]? = some ok → k ≠ i → (listed.setIfInBounds j true).getD k true = false → (∀ e ∈ ok.after, Region.binds .any e = true → e.on ≠ i) → oi.apart ops ok = true ∧ lasts.contains k = false := fun k ok hk hki hun hno => by
        refine hfree k ok hk hki ?_ hno
        by_cases hjk : j = k
        · subst hjk; exact hjun
        · rw [getD_set_ne true hjk] at hun; exact hun
      unfold vcOp at h1 ⊢
      rw [hoj] at h1 ⊢
      dsimp only at h1 ⊢
      refine vcStep_mono h1 ((aopD_congr P lit σ oj (looks_ev a1)).symm) (fun k w hg => (looks_gd a1 k w hg).symm) fun x s hs => ?_
      obtain ⟨hkeep, hs⟩ := hs
      refine ⟨hkeep, ih _ _ _ hfree' (ready_mono hr (Ne.symm hji)) (fixed_congr lit bs oi (fun y hy => (looks_ev a3 y hy).symm) hF) ?_ ?_⟩
      · have hk : ∀ b ∈ bs, sget b s = sget b σ := hkeep.resolve_left (by rw [hlast]; simp)
        have e1 : aopD P lit (eputo oj.dst x env) s oi = aopD P lit env σ oi := by
          rw [aopD_congr P lit s oi (looks_ev a3), (fixed_spec P lit bs env σ s oi hF hk).2]
        unfold Outc at hO ⊢
        split
        · rename_i hg; rw [hg] at hO; rw [e1]; exact hO
        · rename_i k w hg; rw [hg] at hO; rw [e1, looks_gd a3 k w hg]; exact hO
      · rw [Array.setIfInBounds_comm _ _ hji]
        exact vcAny_congr hK fuel _ _ _ _ (EEq.comm env x d fun k hk he => a2 k he hk) hs

/-- What is to be shown of a region whose order is drawn: in the order of 'sched'; an operation of mark 'true' may come up at any time and is taken now, one of mark 'false' comes up alone. -/
def vcD (P : Program) (N : Slots) (lit bs lasts : List Nat) (ops : Array Oper) (K : Env → Store → Prop) (Qp : D → Store → Prop) : List (Nat × Bool) → Env → Store → Prop
  | [], env, σ => K env σ
  | (i, early) :: rest, env, σ =>
    match ops[i]? with
    | none => False
    | some o =>
      if early = true then Fixed lit bs env o ∧ vcStep P N lit (dsts ops) Qp (vcD P N lit bs lasts ops K Qp rest) o env σ
      else vcStep P N lit (dsts ops) Qp (fun env' σ' => Keep bs lasts i σ σ' ∧ vcD P N lit bs lasts ops K Qp rest env' σ') o env σ

def freeL (lasts : List Nat) (ops : Array Oper) (listed : Array Bool) (i : Nat) : Bool :=
  match ops[i]? with
  | none => false
  | some oi => (List.range ops.size).all fun j => j == i || listed.getD j true || match ops[j]? with
      | some oj => oj.after.any (fun e => Region.binds .any e && e.on == i) || (oi.apart ops oj && !lasts.contains j)
      | none => true

theorem freeL_spec {lasts : List Nat} {ops : Array Oper} {i : Nat} {oi : Oper} {listed : Array Bool} (hi : ops[i]? = some oi) (h : freeL lasts ops listed i = true) (j : Nat) (oj : Oper)
    (hj : ops[j]? = some oj) (hne : j ≠ i) (hun : listed.getD j true = false) (hno : ∀ e ∈ oj.after, Region.binds .any e = true → e.on ≠ i) : oi.apart ops oj = true ∧ lasts.contains j = false := by
  simp only [freeL, hi, List.all_eq_true, List.mem_range] at h
  have h1 := h j (Array.getElem?_eq_some_iff.1 hj).1
  simp only [hj, Bool.or_eq_true, beq_iff_eq, hne, false_or, hun, Bool.false_eq_true] at h1
  rcases h1 with h1 | h1
  · obtain ⟨e, he, hb⟩ := Array.any_eq_true'.1 h1
    simp only [Bool.and_eq_true, beq_iff_eq] at hb
    exact absurd hb.2 (hno e he hb.1)
  · simpa using h1

def okS (lasts : List Nat) (ops : Array Oper) : List (Nat × Bool) → Array Bool → Bool
  | [], listed => Region.ready .any ops listed == []
  | (i, early) :: rest, listed =>
    (if early = true then (Region.ready .any ops listed).contains i && freeL lasts ops listed i else Region.ready .any ops listed == [i]) && okS lasts ops rest (listed.setIfInBounds i true)

theorem vcD_any {lit bs lasts : List Nat} {ops : Array Oper} (hK : ∀ e e' σ, EEq e e' → K e σ → K e' σ) : ∀ (sched : List (Nat × Bool)) (fuel : Nat) (listed : Array Bool) (env : Env) (σ : Store), okS lasts ops sched listed = true → sched.length ≤ fuel →
    vcD P N lit bs lasts ops K Qp sched env σ → vcAny P N lit bs lasts ops K Qp fuel listed env σ
  | [], fuel, listed, env, σ, hok, _, h => by
    have hr : Region.ready .any ops listed = [] := by simpa [okS] using hok
    cases fuel with
    | zero => exact ⟨hr, h⟩
    | succ n => exact ⟨fun _ => h, by rw [hr]; simp⟩
  | (i, early) :: rest, 0, listed, env, σ, _, hl, _ => by simp at hl
  | (i, early) :: rest, fuel + 1, listed, env, σ, hok, hl, h => by
    simp only [okS, Bool.and_eq_true] at hok
    obtain ⟨h1, h2⟩ := hok
    have hl' : rest.length ≤ fuel := by simp at hl; omega
    simp only [vcD] at h
    split at h
    · exact h.elim
    · rename_i o ho
      cases early with
      | true =>
        simp only [if_true, Bool.and_eq_true] at h1 h
        obtain ⟨hF, hN, hs⟩ := h
        have hsp := fixed_spec P lit bs env σ σ o hF fun _ _ => rfl
        have hval : ∀ {n : Env → Store → Prop}, vcRes P Qp n o.dst env σ (aopD P lit env σ o) → ∃ p d, aopD P lit env σ o = .val p d ∧ p ∧ n (eputo o.dst d env) σ := by
          intro n hv
          have hone := hsp.1
          cases hr : aopD P lit env σ o <;> rw [hr] at hv hone <;> try exact hone.elim
          · exact ⟨_, _, rfl, hv.1, hv.2⟩
          · exact hv.elim
        have key : ∃ d, Outc P lit (dsts ops) env σ o d ∧ vcD P N lit bs lasts ops K Qp rest (eputo o.dst d env) σ := by
          unfold Outc
          cases hg : o.guard with
          | none =>
            rw [hg] at hs
            obtain ⟨p, d, e1, e2, e3⟩ := hval hs
            exact ⟨d, ⟨p, e1, e2⟩, e3⟩
          | some q =>
            obtain ⟨j, want⟩ := q
            rw [hg] at hs
            dsimp only at hs ⊢
            split at hs
            · rename_i t ht
              by_cases htw : t = want
              · obtain ⟨p, d, e1, e2, e3⟩ := hval (hs.1 htw)
                exact ⟨d, .inl ⟨t, ht, fun _ => ⟨p, e1, e2⟩, fun h => by subst htw; cases t <;> cases h⟩, e3⟩
              · have htw' : t = !want := by cases t <;> cases want <;> simp_all
                exact ⟨_, .inl ⟨t, ht, fun h => absurd h htw, fun _ => rfl⟩, hs.2 htw'⟩
            · rename_i ht; exact ⟨_, .inr ⟨ht, rfl⟩, hs⟩
            · exact hs.elim
        obtain ⟨d, hO, hn⟩ := key
        exact vcAny_first hK ho hN fuel listed env σ (freeL_spec ho h1.2) (by simpa using h1.1) hF hO (vcD_any hK rest fuel _ _ _ h2 hl' hn)
      | false =>
        simp only [Bool.false_eq_true, if_false, beq_iff_eq] at h1 h
        refine ⟨fun hr => (by rw [h1] at hr; cases hr), fun j hj => ?_⟩
        rw [h1] at hj
        simp only [List.mem_singleton] at hj
        subst hj
        unfold vcOp
        rw [ho]
        exact vcStep_mono h rfl (fun _ _ _ => rfl) fun d s hs => ⟨hs.1, vcD_any hK rest fuel _ _ _ h2 hl' hs.2⟩

theorem rep_same {w w' : World} {S : Nat → Prop} (hh : w'.heap = w.heap) : Ev w S w' S := ⟨fun _ h => h, fun _ _ => by rw [hh], by unfold Shape; intro b c e fr h; exact ⟨c, fr, by rw [hh]; exact h, rfl⟩⟩

theorem Sim.draw {env : Env} {σ : Store} {w : World} {S : Nat → Prop} {tmps : Array Value} (h : Sim C env σ w S tmps) (n : Nat) : Sim C env σ { w with drawn := n } S tmps := by
  have hE : Ev w S { w with drawn := n } S := rep_same rfl
  refine ⟨fun k => (h.env k).ev hE, fun b o hb => ?_, ⟨h.fr.os, h.fr.tape, h.fr.output, h.fr.size, h.fr.shape, h.fr.block, h.fr.mono, h.fr.new, h.fr.dom, h.fr.lt⟩, h.size⟩
  obtain ⟨h1, h2⟩ := h.store b o hb
  exact ⟨h1, h2.ev hE rfl⟩

/-- A region whose order is drawn. -/
theorem Goes.draw {id : Nat} {ops : Array Oper} {k : List Item} {env : Env} {σ : Store} (keep lit bs lasts : List Nat) (sched : List (Nat × Bool)) (hm : P.follows .mixedOrders = true) (hl : sched.length ≤ ops.size) (hok : okS lasts ops sched (Array.replicate ops.size false) = true)
    (h : ∀ K : Env → Store → Prop, (∀ env σ, Goes C k env σ → K env σ) → vcD P N lit bs lasts ops K (Pan C) sched (Ab.rebase keep env) σ) : Goes C (.code (.region id ops true) :: k) env σ := by
  intro a w S hd hs
  have hv := vcD_any (Qp := Pan C) (K := Goes C k) (fun e e' s he hg => Goes.le (fun k => .inr (he k)) (SLe.refl s) hg) sched ops.size (Array.replicate ops.size false) _ _ hok hl (h (Goes C k) (fun _ _ h => h))
  have hs' : Sim C (Ab.rebase keep env) σ w S a.tmps := ⟨hs.env.le (ele_rebase keep env), hs.store, hs.fr, hs.size⟩
  have hl := vcAny_sound ops.size _ _ σ a _ S hv hd (hs'.draw (w.drawn + 1))
  have hwp := wp_region_any (id := id) hm hl
  exact region_arrives (hwp C.b k C.cs)

end draw
end Go.Ab
