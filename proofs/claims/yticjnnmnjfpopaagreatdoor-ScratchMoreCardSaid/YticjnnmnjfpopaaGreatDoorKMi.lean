/- A part of a proof about the given program: the abstract machine, what functions compute, laid in few texts. -/
import Derived.Test.YticjnnmnjfpopaaGreatDoorKMh
import Derived.Test.YticjnnmnjfpopaaGreatDoorTie
import Derived.Test.YticjnnmnjfpopaaGreatDoorCards
import Derived.ProofKit
import Derived.LaidMore
import Derived.OpenShut
import Derived.Lay
import Derived.SevenTiedAt
import Derived.Stop.Joined
import Derived.Lib.LaidU8
set_option linter.unusedSimpArgs false
set_option linter.unusedVariables false
set_option linter.constructorNameAsVariable false
namespace Go.Ab.S16
open Go Go.Proofs Go.RowKit
theorem evalGo_pos {g : XGr} {l : List XFile} {c : Nat} : ∀ {r : List Nat} {made : List XFile}, evalGo g l r made = .inl c → c ≠ 0
  | [], made, h => by cases h
  | n :: r, made, h => by
    rw [evalGo] at h
    cases hs : evalStep g l n made with
    | inl c' =>
      rw [hs] at h
      cases h
      unfold evalStep at hs
      split at hs
      · cases hs; decide
      · split at hs
        · cases hs; decide
        · split at hs
          · cases hs
          · cases hs; decide
    | inr made' =>
      rw [hs] at h
      exact evalGo_pos h
theorem evalM_pos {m : XMan} {l : List XFile} {ts : List ByteArray} {c : Nat} (h : evalM m l ts = .inl c) : c ≠ 0 := by
  unfold evalM at h
  split at h
  · rename_i hg
    cases h
    exact newG_pos hg
  · unfold evalG at h
    split at h
    · cases h; decide
    · split at h
      · rename_i hp
        cases h
        exact planL_pos hp
      · split at h
        · cases h; decide
        · exact evalGo_pos h
theorem few_ok {m : XMan} (h : fewB m = true) {l : List XFile} (hl : l.length ≤ 400) (hf : ∀ f ∈ l, f.b.length ≤ 200 ∧ f.name.size ≤ 200) {ts : List ByteArray} (ht : ts.length ≤ 20) : EvOk m l ts := by
  have h1 := few_len h
  refine ⟨by omega, fun e he => ?_, by omega, hl, fun f hfm => by have := hf f hfm; omega, by omega⟩
  obtain ⟨⟨a1, a2, a3, a4⟩, a5, a6⟩ := fewE_small (few_edge h e he)
  refine edgeOk e.outs e.ins e.impl e.order e.cmd e.dep a1 a2 a3 a4 (by omega) fun f hfm => ?_
  have hn : f ∈ nmsTo m m.edges.length := by
    unfold nmsTo
    rw [List.take_length]
    exact List.mem_append.2 (.inr (List.mem_flatMap.2 ⟨e, he, by unfold XEdge.all; exact hfm⟩))
  have := few_names h f hn
  omega
def oldF (n : ByteArray) : XFile := ⟨n, [111, 108, 100]⟩
def logF : XFile := ⟨nmLog, [111, 119, 110]⟩
theorem putL_mem (s : ByteArray) : ∀ (l : List ByteArray) (x : ByteArray), x ∈ putL s l → x = s ∨ x ∈ l
  | [], x, h => by
    unfold putL at h
    simpa using h
  | y :: l, x, h => by
    unfold putL at h
    split at h
    · rcases List.mem_cons.1 h with h | h
      · exact .inr (by rw [h]; simp)
      · rcases putL_mem s l x h with h | h
        · exact .inl h
        · exact .inr (List.mem_cons_of_mem _ h)
    · split at h
      · exact .inr h
      · rcases List.mem_cons.1 h with h | h
        · exact .inl h
        · exact .inr h
theorem putAll_mem : ∀ (fs out : List ByteArray) (x : ByteArray), x ∈ putAll out fs → x ∈ out ∨ x ∈ fs
  | [], out, x, h => .inl h
  | f :: fs, out, x, h => by
    rcases putAll_mem fs (putL f out) x h with h | h
    · rcases putL_mem f out x h with h | h
      · exact .inr (by rw [h]; simp)
      · exact .inl h
    · exact .inr (List.mem_cons_of_mem _ h)
theorem evalGo_small {g : XGr} (hs : ∀ e ∈ g.man.edges, e.small) {l : List XFile} : ∀ {r : List Nat} {made x : List XFile}, evalGo g l r made = .inr x → (∀ f ∈ made, f.b.length < 2 ^ 20) → (∀ f ∈ x, f.b.length < 2 ^ 20) ∧ x.length ≤ made.length + 10 * r.length
  | [], made, x, h, hm => by
    simp only [evalGo, Sum.inr.injEq] at h
    subst h
    exact ⟨hm, by simp⟩
  | n :: r, made, x, h, hm => by
    rw [evalGo] at h
    cases hst : evalStep g l n made with
    | inl c => rw [hst] at h; cases h
    | inr made' =>
      rw [hst] at h
      obtain ⟨_, d, hd, hf, rfl⟩ := step_inr.1 hst
      have h1 := cookM_files hd
      have h2 : d.outs.length ≤ 10 := by
        have := congrArg List.length (fit_names hf)
        rw [List.length_map] at this
        rw [this]
        exact outsOf_len g.man hs n
      obtain ⟨h3, h4⟩ := evalGo_small hs h fun f hfm => by
        rcases List.mem_append.1 hfm with hfm | hfm
        · exact hm f hfm
        · exact (h1 f hfm).1
      refine ⟨h3, ?_⟩
      rw [List.length_append] at h4
      rw [List.length_cons]
      omega
theorem evalM_small {m : XMan} {l x : List XFile} {ts : List ByteArray} (hev : EvOk m l ts) (h : evalM m l ts = .inr x) : (∀ f ∈ x, f.b.length < 2 ^ 20) ∧ x.length ≤ 600 := by
  unfold evalM at h
  cases hg : newG m with
  | inl c => rw [hg] at h; cases h
  | inr g =>
    rw [hg] at h
    obtain ⟨hok, rfl⟩ := newG_ok (by have := hev.edges; omega) (fun e he => (hev.edge e he).small) hev.defs (fun e he => (hev.edge e he).outs) hg
    have hel := hev.edges
    simp only at h
    unfold evalG at h
    split at h
    · cases h
    · split at h
      · cases h
      · rename_i P hP
        split at h
        · cases h
        · obtain ⟨h1, h2⟩ := evalGo_small hok.sm h (fun f hf => by cases hf)
          have := (planL_ok hok hP).1
          simp at h2
          exact ⟨h1, by omega⟩
theorem byte_ok {b : List UInt8} : ∀ z ∈ b.map bD, (match z with | D.v (Value.int IntKind.u8 n) => decide (0 ≤ n ∧ n < 256) | _ => false) = true := fun z hz => by
  obtain ⟨c, _, rfl⟩ := List.mem_map.1 hz
  have := c.toNat_lt
  exact decide_eq_true ⟨Int.natCast_nonneg _, by omega⟩
theorem pub_own_ne {o : Option Nat} {c s a b : Nat} {xs : List D} (h : o ≠ some c) : D.pub c s xs (.own o a b) = .own o a b := by
  cases o with
  | none => rfl
  | some k =>
    simp only [D.pub]
    rw [if_neg (fun e => h (by rw [e.1]))]
theorem more_cases (a b : Bool) (n : Nat) : a = false ∨ (a = true ∧ b = false) ∨ (a = true ∧ b = true ∧ 20 < n) ∨ (a = true ∧ b = true ∧ n ≤ 20 ∧ n = 0) ∨ (a = true ∧ b = true ∧ n ≤ 20 ∧ 0 < n) := by
  cases a
  · exact .inl rfl
  · cases b
    · exact .inr (.inl ⟨rfl, rfl⟩)
    · rcases Nat.lt_or_ge 20 n with h | h
      · exact .inr (.inr (.inl ⟨rfl, rfl, h⟩))
      · rcases Nat.eq_zero_or_pos n with h2 | h2
        · exact .inr (.inr (.inr (.inl ⟨rfl, rfl, h, h2⟩)))
        · exact .inr (.inr (.inr (.inr ⟨rfl, rfl, h, h2⟩)))
set_option maxRecDepth 4000 in
set_option maxHeartbeats 1600000 in
theorem smore_true (m : XMan) (l : List XFile) (ts : List ByteArray) (σ : Store) :
    ACalls Tryz.prog 5 [m.d, .slc (l.map XFile.d), .slc (ts.map sD)] σ (fun e σ' => e = .ret (.v (.bool true)) ∧ σ' = σ) := by
  refine ACalls.still ?_ σ
  refine ACalls.forget (R := fun e _ => e = .ret (.v (.bool true))) ?_ fun e σ' h => ⟨[], SLe.nil _, h, rfl⟩
  have htl : (ts.map sD).length = ts.length := List.length_map ..
  have hmd : m.d = .agg [.slc (m.edges.map XEdge.d), .slc (m.defs.map sD)] := rfl
  refine ACalls.of_body Tryz.func5 rfl Tryz.ntmps5 (by simp) fun C hC => ?_
  rw [hmd]
  refine Goes.seq ?_
  refine Goes.region [0, 1, 2] fun K hK => ?_; simp (maxSteps := 4000000) only [go_sem]
  intro b1
  refine hK _ _ ?_; clear hK K
  have g1 : sget b1 [(b1, AObj.arr 2 [D.agg [.slc (m.edges.map XEdge.d), .slc (m.defs.map sD)]])] = some (.arr 2 [D.agg [.slc (m.edges.map XEdge.d), .slc (m.defs.map sD)]]) := by rw [sget_self]
  refine Goes.seq ?_
  refine Goes.seq ?_
  rcases more_cases (fewB m) (lightB l) ts.length with h1 | ⟨h1, h2⟩ | ⟨h1, h2, h3⟩ | ⟨h1, h2, h3, h4⟩ | ⟨h1, h2, h3, h4⟩
  · refine Goes.region [1, 2, 3] fun K hK => ?_; simp (maxSteps := 4000000) only [go_sem, g1]
    refine ⟨_, Tryz.call10, (few_calls m _).mono ?_⟩
    rintro e σ1 ⟨rfl, rfl⟩
    simp only [go_sem, h1, Bool.not_false]
    refine hK _ _ ?_; clear hK K
    refine Goes.condT rfl ?_
    refine Goes.seq ?_
    refine Goes.region [] fun K hK => ?_; simp (maxSteps := 4000000) only [go_sem]
    refine hK _ _ ?_; clear hK K
    refine Goes.ret hC Tryz.func5 (by simp [go_sem]) ?_
    simp only [go_sem]
  · refine Goes.region [1, 2, 3] fun K hK => ?_; simp (maxSteps := 4000000) only [go_sem, g1]
    refine ⟨_, Tryz.call10, (few_calls m _).mono ?_⟩
    rintro e σ1 ⟨rfl, rfl⟩
    simp only [go_sem, h1, Bool.not_true]
    refine ⟨_, Tryz.call11, (light_calls l _).mono ?_⟩
    rintro e σ1 ⟨rfl, rfl⟩
    simp only [go_sem, h2, Bool.not_false]
    refine hK _ _ ?_; clear hK K
    refine Goes.condT rfl ?_
    refine Goes.seq ?_
    refine Goes.region [] fun K hK => ?_; simp (maxSteps := 4000000) only [go_sem]
    refine hK _ _ ?_; clear hK K
    refine Goes.ret hC Tryz.func5 (by simp [go_sem]) ?_
    simp only [go_sem]
  · have d1 : decide (((ts.length : Nat) : Int) > 20) = true := decide_eq_true (by omega)
    refine Goes.region [1, 2, 3] fun K hK => ?_; simp (maxSteps := 4000000) only [go_sem, g1]
    refine ⟨_, Tryz.call10, (few_calls m _).mono ?_⟩
    rintro e σ1 ⟨rfl, rfl⟩
    simp only [go_sem, h1, Bool.not_true]
    refine ⟨_, Tryz.call11, (light_calls l _).mono ?_⟩
    rintro e σ1 ⟨rfl, rfl⟩
    simp only [go_sem, h2, Bool.not_true, htl, d1]
    refine hK _ _ ?_; clear hK K
    refine Goes.condT rfl ?_
    refine Goes.seq ?_
    refine Goes.region [] fun K hK => ?_; simp (maxSteps := 4000000) only [go_sem]
    refine hK _ _ ?_; clear hK K
    refine Goes.ret hC Tryz.func5 (by simp [go_sem]) ?_
    simp only [go_sem]
  · have d1 : decide (((ts.length : Nat) : Int) > 20) = false := decide_eq_false (by omega)
    have d2 : (((ts.length : Nat) : Int) == 0) = true := by rw [h4]; rfl
    refine Goes.region [1, 2, 3] fun K hK => ?_; simp (maxSteps := 4000000) only [go_sem, g1]
    refine ⟨_, Tryz.call10, (few_calls m _).mono ?_⟩
    rintro e σ1 ⟨rfl, rfl⟩
    simp only [go_sem, h1, Bool.not_true]
    refine ⟨_, Tryz.call11, (light_calls l _).mono ?_⟩
    rintro e σ1 ⟨rfl, rfl⟩
    simp only [go_sem, h2, Bool.not_true, htl, d1, d2]
    refine hK _ _ ?_; clear hK K
    refine Goes.condT rfl ?_
    refine Goes.seq ?_
    refine Goes.region [] fun K hK => ?_; simp (maxSteps := 4000000) only [go_sem]
    refine hK _ _ ?_; clear hK K
    refine Goes.ret hC Tryz.func5 (by simp [go_sem]) ?_
    simp only [go_sem]
  · have d1 : decide (((ts.length : Nat) : Int) > 20) = false := decide_eq_false (by omega)
    have d2 : (((ts.length : Nat) : Int) == 0) = false := by rw [beq_eq_false_iff_ne]; omega
    refine Goes.region [1, 2, 3] fun K hK => ?_; simp (maxSteps := 4000000) only [go_sem, g1]
    refine ⟨_, Tryz.call10, (few_calls m _).mono ?_⟩
    rintro e σ1 ⟨rfl, rfl⟩
    simp only [go_sem, h1, Bool.not_true]
    refine ⟨_, Tryz.call11, (light_calls l _).mono ?_⟩
    rintro e σ1 ⟨rfl, rfl⟩
    simp only [go_sem, h2, Bool.not_true, htl, d1, d2]
    refine hK _ _ ?_; clear hK K
    refine Goes.condF rfl ?_
    refine Goes.skip ?_
    refine Goes.seq ?_
    rcases hev : evalM m l ts with c | x
    · have hml := few_len h1
      have hsm : ∀ e ∈ m.edges, e.small := fun e he => (fewE_small (few_edge h1 e he)).1
      have hlf := light_len h2
      have cg := fun σ => given_calls m σ (by omega) (by omega) hsm
      have co := fun σ => of_calls l σ (by omega) (fun f hf => by have := hlf.2 f hf; omega)
      have ce := fun σ => eval_calls m l ts (few_ok h1 (by omega) hlf.2 h3) σ
      refine Goes.region [1, 2, 3] fun K hK => ?_; simp (maxSteps := 4000000) only [go_sem, g1]
      refine ⟨_, Tryz.call13, (cg _).mono ?_⟩
      rintro e σ1 ⟨rfl, rfl⟩
      simp only [go_sem]
      refine ⟨_, Tryz.call14, (co _).mono ?_⟩
      rintro e σ1 ⟨rfl, rfl⟩
      simp only [go_sem]
      refine ⟨_, Tryz.call12, (ce _).mono ?_⟩
      rintro e σ1 ⟨rfl, rfl⟩
      simp only [go_sem, hev, resF, resE, eD, List.map_nil]
      refine hK _ _ ?_; clear hK K
      refine Goes.seq ?_
      refine Goes.seq ?_
      have hc0 : ((c : Int) != 0) = true := by have := evalM_pos hev; rw [bne_iff_ne]; omega
      refine Goes.region [1, 2, 3, 7, 8] fun K hK => ?_; simp (maxSteps := 4000000) only [go_sem, hc0]
      refine hK _ _ ?_; clear hK K
      refine Goes.condT rfl ?_
      refine Goes.seq ?_
      refine Goes.region [7] fun K hK => ?_; simp (maxSteps := 4000000) only [go_sem, List.length_nil]
      refine ⟨_, Tryz.call17, (awake_calls _).mono ?_⟩
      rintro e σ1 ⟨rfl, rfl⟩
      simp only [go_sem]
      refine hK _ _ ?_; clear hK K
      refine Goes.ret hC Tryz.func5 (by simp [go_sem]) ?_
      simp only [go_sem]
    · have hml := few_len h1
      have hsm : ∀ e ∈ m.edges, e.small := fun e he => (fewE_small (few_edge h1 e he)).1
      have hlf := light_len h2
      have cg := fun σ => given_calls m σ (by omega) (by omega) hsm
      have co := fun σ => of_calls l σ (by omega) (fun f hf => by have := hlf.2 f hf; omega)
      have ce := fun σ => eval_calls m l ts (few_ok h1 (by omega) hlf.2 h3) σ
      refine Goes.region [1, 2, 3] fun K hK => ?_; simp (maxSteps := 4000000) only [go_sem, g1]
      refine ⟨_, Tryz.call13, (cg _).mono ?_⟩
      rintro e σ1 ⟨rfl, rfl⟩
      simp only [go_sem]
      refine ⟨_, Tryz.call14, (co _).mono ?_⟩
      rintro e σ1 ⟨rfl, rfl⟩
      simp only [go_sem]
      refine ⟨_, Tryz.call12, (ce _).mono ?_⟩
      rintro e σ1 ⟨rfl, rfl⟩
      simp only [go_sem, hev, resF, resE, eD]
      refine hK _ _ ?_; clear hK K
      refine Goes.seq ?_
      refine Goes.seq ?_
      refine Goes.region [1, 2, 3, 7, 8] fun K hK => ?_; simp (maxSteps := 4000000) only [go_sem, bne_self_eq_false]
      refine hK _ _ ?_; clear hK K
      refine Goes.condF rfl ?_
      refine Goes.skip ?_
      refine Goes.seq ?_
      obtain ⟨hxb, hxn⟩ := evalM_small (few_ok h1 (by omega) hlf.2 h3) hev
      obtain ⟨t0, rest, hts⟩ : ∃ t0 rest, ts = t0 :: rest := by
        cases ts with
        | nil => simp at h4
        | cons a r => exact ⟨a, r, rfl⟩
      obtain ⟨y, hy, hyx⟩ := evalM_one hsm (show evalM m l (t0 :: rest) = .inr x by rw [← hts]; exact hev)
      have hyn := (evalM_small (few_ok h1 (by omega) hlf.2 (show [t0].length ≤ 20 by simp)) hy).2
      have htk : List.take 1 (ts.map sD) = [t0].map sD := by rw [hts]; rfl
      have ce1 := fun σ => eval_calls m l [t0] (few_ok h1 (by omega) hlf.2 (by simp)) σ
      have hyl : (y.map XFile.d).length = y.length := List.length_map ..
      have hxl : (x.map XFile.d).length = x.length := List.length_map ..
      have hts1 : (1 : Int) ≤ (ts.length : Int) := by omega
      have hts2 : 1 ≤ ts.length := by omega
      refine Goes.draw [1, 2, 3, 7] [] [b1] [] [(0, true), (2, true), (4, true), (5, true), (1, false), (3, false), (6, false), (7, true), (8, true), (9, true), (10, true), (11, true)] (by kernel_rfl) (by decide) (by kernel_rfl) fun K hK => ?_; simp (maxSteps := 4000000) only [go_sem, g1, htl, htk, hts1, hts2]
      refine ⟨fun y hy => (plain_sD _ y hy).1, ?_⟩
      refine ⟨_, Tryz.call13, (cg _).mono ?_⟩
      rintro e σ2 ⟨rfl, rfl⟩
      simp only [go_sem, g1]
      refine ⟨_, Tryz.call14, (co _).mono ?_⟩
      rintro e σ3 ⟨rfl, rfl⟩
      simp only [go_sem, g1]
      refine ⟨_, Tryz.call12, (ce1 _).mono ?_⟩
      rintro e σ4 ⟨rfl, rfl⟩
      simp only [go_sem, g1, hy, resF, resE, eD]
      refine hK _ _ ?_; clear hK K
      refine Goes.seq ?_
      refine Goes.seq ?_
      refine Goes.region [1, 2, 3, 7, 9, 10] fun K hK => ?_; simp (maxSteps := 4000000) only [go_sem, bne_self_eq_false]
      refine hK _ _ ?_; clear hK K
      refine Goes.condF rfl ?_
      refine Goes.skip ?_
      refine Goes.seq ?_
      refine Goes.seq ?_
      refine Goes.region [1, 2, 3, 7, 9] fun K hK => ?_; simp (maxSteps := 4000000) only [go_sem]
      refine hK _ _ ?_; clear hK K
      refine Goes.block ?_
      refine Goes.rebase [1, 2, 3, 7, 9, 11] ?_
      simp only [go_sem]
      refine Goes.while (fun (i : Nat) env' σ'' => (i ≤ y.length) ∧ env' = [(1, .slc (l.map XFile.d)), (2, .slc (ts.map sD)), (3, .ptr b1 2 0 0), (7, .slc (x.map XFile.d)), (9, .slc (y.map XFile.d)), (11, .v (.int .i64 (i : Int)))] ∧ σ'' = [(b1, AObj.arr 2 [D.agg [.slc (m.edges.map XEdge.d), .slc (m.defs.map sD)]])]) (fun (i : Nat) => y.length - i) 0 ⟨by omega, rfl, rfl⟩ ?_
      rintro i env' σ'' ⟨hi, rfl, rfl⟩ ih
      have ih1 := ih
      refine Goes.seq ?_
      refine Goes.seq ?_
      refine Goes.region [1, 2, 3, 7, 9, 11] fun K hK => ?_; simp (maxSteps := 4000000) only [go_sem, hyl]
      refine hK _ _ ?_; clear hK K
      refine Goes.cond rfl (fun h70 => ?_) (fun h70 => ?_)
      · have hlt : i < y.length := Int.ofNat_lt.1 (by simpa using h70)
        have hg := getD_map_lt XFile.d y i hlt
        rw [XFile.d] at hg
        have hi0 : (0 : Int) ≤ (i : Int) := by omega
        have hi1 : (i : Int) < (y.length : Int) := by omega
        have hfx := hyx y[i] (List.getElem_mem hlt)
        refine Goes.skip ?_
        refine Goes.seq ?_
        refine Goes.block ?_
        refine Goes.seq ?_
        refine Goes.region [1, 2, 3, 7, 9, 11] fun K hK => ?_; simp (maxSteps := 4000000) only [go_sem, hyl, hg, hi0, hi1]
        refine ⟨_, Tryz.call27, (find_calls x y[i].name _ (by omega) (fun f hf => Nat.lt_trans (hxb f hf) (by decide))).mono ?_⟩
        rintro e σ1 ⟨rfl, rfl⟩
        simp only [go_sem, hfx, findD]
        refine hK _ _ ?_; clear hK K
        refine Goes.seq ?_
        refine Goes.draw [1, 2, 3, 7, 9, 11, 12, 13] [] [] [] [(0, true), (1, true), (2, true), (3, true), (4, true), (5, true), (6, true), (7, true), (8, true), (9, true), (10, true), (11, true), (12, true)] (by kernel_rfl) (by decide) (by kernel_rfl) fun K hK => ?_; simp (maxSteps := 4000000) only [go_sem, hyl, hg, hi0, hi1, bytesOf_bD, BEq.rfl, bne_self_eq_false, Bool.not_true]
        refine ⟨byte_ok, byte_ok, ?_⟩
        refine hK _ _ ?_; clear hK K
        refine Goes.condF rfl ?_
        refine Goes.skip ?_
        refine Goes.inBlock ?_
        refine Goes.region [1, 2, 3, 7, 9, 11] fun K hK => ?_; simp (maxSteps := 4000000) only [go_sem]
        refine hK _ _ ?_; clear hK K
        refine Goes.rebase [1, 2, 3, 7, 9, 11] ?_
        simp only [go_sem]
        rw [wrap_succ i (by omega)]
        exact ih (i + 1) _ _ ⟨by omega, rfl, rfl⟩ (by omega)
      · have co2 := fun σ => of_own l σ (by omega) (fun f hf => by have := hlf.2 f hf; omega)
        refine Goes.exit rfl ?_
        refine Goes.seq ?_
        refine Goes.region [1, 2, 3, 7] fun K hK => ?_; simp (maxSteps := 4000000) only [go_sem]
        refine ⟨_, Tryz.call14, (co2 _).mono ?_⟩
        rintro e σ1 ⟨o, hgr, rfl, rfl⟩
        simp only [go_sem]
        refine hK _ _ ?_; clear hK K
        refine Goes.seq ?_
        refine Goes.region [2, 3, 7, 14] fun K hK => ?_; simp (maxSteps := 4000000) only [go_sem, hgr.keep g1]
        refine ⟨_, Tryz.call22, (refOuts_calls m _ (by omega) hsm).mono ?_⟩
        rintro e σ1 ⟨rfl, rfl⟩
        simp only [go_sem]
        refine hK _ _ ?_; clear hK K
        obtain ⟨O, hO⟩ : ∃ O, O = putAll [] (m.edges.flatMap XEdge.outs) := ⟨_, rfl⟩
        rw [← hO]
        have hOn : O.length ≤ 300 := by
          have h5 := putAll_len [] (m.edges.flatMap XEdge.outs)
          have h6 := outsTo_len m hsm m.edges.length (Nat.le_refl _)
          unfold outsTo at h6
          rw [List.take_length] at h6
          rw [hO]
          simp only [List.length_nil] at h5
          omega
        have hol : (O.map sD).length = O.length := List.length_map ..
        refine Goes.seq ?_
        refine Goes.seq ?_
        refine Goes.region [2, 3, 7, 14, 15] fun K hK => ?_; simp (maxSteps := 4000000) only [go_sem]
        refine hK _ _ ?_; clear hK K
        refine Goes.block ?_
        refine Goes.rebase [2, 3, 7, 14, 15, 16] ?_
        simp only [go_sem]
        refine Goes.while (fun (i : Nat) env' σ'' => ∃ o : Option Nat, (i ≤ O.length ∧ GrD o 2 ((l ++ (O.take i).map oldF).map XFile.d) [(b1, AObj.arr 2 [D.agg [.slc (m.edges.map XEdge.d), .slc (m.defs.map sD)]])]) ∧ env' = [(2, .slc (ts.map sD)), (3, .ptr b1 2 0 0), (7, .slc (x.map XFile.d)), (14, .own o 2 (l.length + i)), (15, .slc (O.map sD)), (16, .v (.int .i64 (i : Int)))] ∧ σ'' = cellsOf o 2 ((l ++ (O.take i).map oldF).map XFile.d) ++ [(b1, AObj.arr 2 [D.agg [.slc (m.edges.map XEdge.d), .slc (m.defs.map sD)]])]) (fun (i : Nat) => O.length - i) 0 ⟨o, ⟨by omega, by simpa using hgr⟩, rfl, by simp⟩ ?_
        rintro i env' σ'' ⟨o, ⟨hi, hgr⟩, rfl, rfl⟩ ih
        have ih2 := ih
        refine Goes.seq ?_
        refine Goes.seq ?_
        refine Goes.region [2, 3, 7, 14, 15, 16] fun K hK => ?_; simp (maxSteps := 4000000) only [go_sem, hol]
        refine hK _ _ ?_; clear hK K
        refine Goes.cond rfl (fun h103 => ?_) (fun h103 => ?_)
        · have hlt : i < O.length := Int.ofNat_lt.1 (by simpa using h103)
          have hg := getD_map_lt sD O i hlt
          rw [sD] at hg
          have hi0 : (0 : Int) ≤ (i : Int) := by omega
          have hi1 : (i : Int) < (O.length : Int) := by omega
          have ho := hgr.oget
          have hd := hgr.sdel
          have hml : ((l ++ (O.take i).map oldF).map XFile.d).length = l.length + i := by rw [List.length_map, List.length_append, List.length_map, List.length_take]; omega
          have htk2 : List.take (l.length + i) ((l ++ (O.take i).map oldF).map XFile.d) = (l ++ (O.take i).map oldF).map XFile.d := List.take_of_length_le (by omega)
          have e1 : (l ++ (O.take i).map oldF).map XFile.d ++ [(oldF O[i]).d] = (l ++ (O.take (i + 1)).map oldF).map XFile.d := by
            simp only [List.take_succ_eq_append_getElem hlt, List.map_append, List.map_cons, List.map_nil, List.append_assoc]
          have hml2 : ((l ++ (O.take (i + 1)).map oldF).map XFile.d).length = l.length + (i + 1) := by rw [List.length_map, List.length_append, List.length_map, List.length_take]; omega
          have hpub : ∀ c, sget c (cellsOf o 2 ((l ++ (O.take i).map oldF).map XFile.d) ++ [(b1, AObj.arr 2 [D.agg [.slc (m.edges.map XEdge.d), .slc (m.defs.map sD)]])]) = none → PubOK c (cellsOf o 2 ((l ++ (O.take i).map oldF).map XFile.d) ++ [(b1, AObj.arr 2 [D.agg [.slc (m.edges.map XEdge.d), .slc (m.defs.map sD)]])]) ∧ o ≠ some c := fun c hc => by
            obtain ⟨hc1, hc2⟩ := hgr.none_of hc
            obtain ⟨n1, _⟩ := sget_none hc1
            refine ⟨.cells hc2 (fun z hz s xs => ?_) (.cons n1 (fun _ _ => rfl) (.nil c)), hc2⟩
            obtain ⟨f, _, rfl⟩ := List.mem_map.1 hz
            rfl
          refine Goes.skip ?_
          refine Goes.seq ?_
          refine Goes.block ?_
          refine Goes.regionOpen [2, 3, 7, 14, 15, 16] ?_
          refine Goes.op (at0 _ _) rfl nofun dstB_lit ?_
          simp only [go_sem]
          refine Goes.op (at1 _ _ _) rfl nofun dstB_lit ?_
          simp only [go_sem]
          refine Goes.op (at2 _ _ _ _) rfl nofun dstB_lit ?_
          simp only [go_sem]
          refine Goes.op (at3 _ _ _ _ _) rfl nofun dstB_lit ?_
          simp only [go_sem, hol, hg, hi0, hi1]
          refine Goes.op (at4 _ _ _ _ _ _) rfl nofun dstB_lit ?_
          simp only [go_sem]
          refine Goes.opBytes (e8 := 5) (at5 _ _ _ _ _ _ _) rfl (at6 _ _ _ _ _ _ _ _) rfl rfl rfl rfl rfl dstB_lit dstB_lit (by kernel_rfl) (by kernel_rfl) ?_
          simp only [go_sem]
          refine ⟨by decide, fun bb hbb => ?_⟩
          refine Goes.rebase [2, 3, 7, 15, 16, 106, 110, 112] ?_
          simp only [go_sem]
          refine Goes.le (ELe.refl _) (σ' := cellsOf (some bb) 1 ([111, 108, 100].map bD) ++ (cellsOf o 2 ((l ++ (O.take i).map oldF).map XFile.d) ++ [(b1, AObj.arr 2 [D.agg [.slc (m.edges.map XEdge.d), .slc (m.defs.map sD)]])])) (SLe.refl _) ?_
          refine pubSlot2 112 (o := some bb) (xs := [111, 108, 100].map bD) rfl ⟨fun c hc => by cases hc; exact hbb, nofun⟩ (fun c hc => by cases hc; exact (hpub bb hbb).1) (fun c hc p hp hk => ?_) ?_
          · cases hc
            have hne := (hpub bb hbb).2
            simp only [List.mem_cons, List.not_mem_nil, or_false] at hp
            rcases hp with rfl | rfl | rfl | rfl | rfl | rfl | rfl | rfl <;> first | rfl | exact absurd rfl hk | exact pub_own_ne hne
          simp only [go_sem]
          refine Goes.op (at7 _ _ _ _ _ _ _ _ _) rfl nofun dstB_lit ?_
          simp only [go_sem]
          refine Goes.op (at8 _ _ _ _ _ _ _ _ _ _) rfl nofun dstB_lit ?_
          simp only [go_sem]
          refine ⟨⟨by decide, by decide⟩, fun b2 hb2 => ?_⟩
          refine Goes.rebase [2, 3, 7, 15, 16, 106, 114] ?_
          simp only [go_sem]
          refine Goes.le (ELe.refl _) (σ' := cellsOf (some b2) 2 [XFile.d (oldF O[i])] ++ (cellsOf o 2 ((l ++ (O.take i).map oldF).map XFile.d) ++ [(b1, AObj.arr 2 [D.agg [.slc (m.edges.map XEdge.d), .slc (m.defs.map sD)]])])) (SLe.refl _) ?_
          refine pubSlot2 114 (o := some b2) (xs := [XFile.d (oldF O[i])]) rfl ⟨fun c hc => by cases hc; exact hb2, nofun⟩ (fun c hc => by cases hc; exact (hpub b2 hb2).1) (fun c hc p hp hk => ?_) ?_
          · cases hc
            have hne := (hpub b2 hb2).2
            simp only [List.mem_cons, List.not_mem_nil, or_false] at hp
            rcases hp with rfl | rfl | rfl | rfl | rfl | rfl | rfl <;> first | rfl | exact absurd rfl hk | exact pub_own_ne hne
          simp only [go_sem]
          refine Goes.op (at9 _ _ _ _ _ _ _ _ _ _ _) rfl nofun dstB_lit ?_
          simp only [go_sem, ho, hd, hml, htk2]
          refine ⟨⟨Nat.le_refl _, fun y hy => by rw [hy]; exact ⟨rfl, rfl⟩, by omega, by omega⟩, fun ob hz hf => ?_⟩
          rw [e1] at hz ⊢
          rw [hml2]
          refine Goes.op (at10 _ _ _ _ _ _ _ _ _ _ _ _) rfl nofun dstB_lit ?_
          simp only [go_sem]
          refine Goes.regionEnd ?_
          refine Goes.inBlock ?_
          refine Goes.region [2, 3, 7, 14, 15, 16] fun K hK => ?_; simp (maxSteps := 4000000) only [go_sem]
          refine hK _ _ ?_; clear hK K
          refine Goes.rebase [2, 3, 7, 14, 15, 16] ?_
          simp only [go_sem]
          rw [wrap_succ i (by omega)]
          exact ih (i + 1) _ _ ⟨ob, ⟨by omega, ⟨hf, hz⟩⟩, rfl, rfl⟩ (by omega)
        · have hie : i = O.length := by
            have h : (O.length : Int) ≤ i := by simpa using h103
            omega
          subst hie
          rw [List.take_length] at hgr ⊢
          obtain ⟨L, hL⟩ : ∃ L, L = l ++ O.map oldF := ⟨_, rfl⟩
          have hLn : L.length = l.length + O.length := by rw [hL, List.length_append, List.length_map]
          rw [← hL] at hgr ⊢
          rw [← hLn]
          have ho := hgr.oget
          have hd := hgr.sdel
          have hml : (L.map XFile.d).length = L.length := List.length_map ..
          have htk2 : List.take L.length (L.map XFile.d) = L.map XFile.d := List.take_of_length_le (by omega)
          have e1 : L.map XFile.d ++ [logF.d] = (L ++ [logF]).map XFile.d := by simp
          have hml2 : ((L ++ [logF]).map XFile.d).length = (L ++ [logF]).length := List.length_map ..
          have hpub : ∀ c, sget c (cellsOf o 2 (L.map XFile.d) ++ [(b1, AObj.arr 2 [D.agg [.slc (m.edges.map XEdge.d), .slc (m.defs.map sD)]])]) = none → PubOK c (cellsOf o 2 (L.map XFile.d) ++ [(b1, AObj.arr 2 [D.agg [.slc (m.edges.map XEdge.d), .slc (m.defs.map sD)]])]) ∧ o ≠ some c := fun c hc => by
            obtain ⟨hc1, hc2⟩ := hgr.none_of hc
            obtain ⟨n1, _⟩ := sget_none hc1
            refine ⟨.cells hc2 (fun z hz s xs => ?_) (.cons n1 (fun _ _ => rfl) (.nil c)), hc2⟩
            obtain ⟨f, _, rfl⟩ := List.mem_map.1 hz
            rfl
          refine Goes.exit rfl ?_
          refine Goes.seq ?_
          refine Goes.regionOpen [2, 3, 7, 14] ?_
          refine Goes.op (at0 _ _) rfl nofun dstB_lit ?_
          simp only [go_sem]
          refine Goes.opBytes (e8 := 5) (at1 _ _ _) rfl (at2 _ _ _ _) rfl rfl rfl rfl rfl dstB_lit dstB_lit (by kernel_rfl) (by kernel_rfl) ?_
          simp only [go_sem]
          refine ⟨by decide, fun bb hbb => ?_⟩
          refine Goes.rebase [2, 3, 7, 116, 118] ?_
          simp only [go_sem]
          refine Goes.le (ELe.refl _) (σ' := cellsOf (some bb) 1 ([111, 119, 110].map bD) ++ (cellsOf o 2 (L.map XFile.d) ++ [(b1, AObj.arr 2 [D.agg [.slc (m.edges.map XEdge.d), .slc (m.defs.map sD)]])])) (SLe.refl _) ?_
          refine pubSlot2 118 (o := some bb) (xs := [111, 119, 110].map bD) rfl ⟨fun c hc => by cases hc; exact hbb, nofun⟩ (fun c hc => by cases hc; exact (hpub bb hbb).1) (fun c hc p hp hk => ?_) ?_
          · cases hc
            have hne := (hpub bb hbb).2
            simp only [List.mem_cons, List.not_mem_nil, or_false] at hp
            rcases hp with rfl | rfl | rfl | rfl | rfl <;> first | rfl | exact absurd rfl hk | exact pub_own_ne hne
          simp only [go_sem]
          refine Goes.op (at3 _ _ _ _ _) rfl nofun dstB_lit ?_
          simp only [go_sem]
          refine Goes.op (at4 _ _ _ _ _ _) rfl nofun dstB_lit ?_
          simp only [go_sem]
          refine ⟨⟨by decide, by decide⟩, fun b2 hb2 => ?_⟩
          refine Goes.rebase [2, 3, 7, 116, 120] ?_
          simp only [go_sem]
          refine Goes.le (ELe.refl _) (σ' := cellsOf (some b2) 2 [XFile.d logF] ++ (cellsOf o 2 (L.map XFile.d) ++ [(b1, AObj.arr 2 [D.agg [.slc (m.edges.map XEdge.d), .slc (m.defs.map sD)]])])) (SLe.refl _) ?_
          refine pubSlot2 120 (o := some b2) (xs := [XFile.d logF]) rfl ⟨fun c hc => by cases hc; exact hb2, nofun⟩ (fun c hc => by cases hc; exact (hpub b2 hb2).1) (fun c hc p hp hk => ?_) ?_
          · cases hc
            have hne := (hpub b2 hb2).2
            simp only [List.mem_cons, List.not_mem_nil, or_false] at hp
            rcases hp with rfl | rfl | rfl | rfl | rfl <;> first | rfl | exact absurd rfl hk | exact pub_own_ne hne
          simp only [go_sem]
          refine Goes.op (at5 _ _ _ _ _ _ _) rfl nofun dstB_lit ?_
          simp only [go_sem, ho, hd, hml, htk2]
          refine ⟨⟨Nat.le_refl _, fun y hy => by rw [hy]; exact ⟨rfl, rfl⟩, by omega, by omega⟩, fun ob hz hf => ?_⟩
          rw [e1] at hz ⊢
          refine Goes.op (at6 _ _ _ _ _ _ _ _) rfl nofun dstB_lit ?_
          simp only [go_sem]
          refine Goes.regionEnd ?_
          refine Goes.rebase [2, 3, 7, 14] ?_
          simp only [go_sem]
          refine pubSlot2 14 (o := ob) (xs := (L ++ [logF]).map XFile.d) rfl ⟨hf, hz⟩ (fun c hc => ?_) (fun c hc p hp hk => ?_) ?_
          · obtain ⟨n1, _⟩ := sget_none (hf c hc)
            exact .cons n1 (fun _ _ => rfl) (.nil c)
          · simp only [List.mem_cons, List.not_mem_nil, or_false] at hp
            rcases hp with rfl | rfl | rfl | rfl <;> first | rfl | exact absurd rfl hk
          simp only [go_sem]
          have hevm : evalM m (L ++ [logF]) ts = .inr x := by
            rw [hL, List.append_assoc]
            refine evalM_more hsm (fun f hf => ?_) hev
            rcases List.mem_append.1 hf with hf | hf
            · obtain ⟨n, hn, rfl⟩ := List.mem_map.1 hf
              rw [hO] at hn
              rcases putAll_mem _ _ _ hn with h | h
              · cases h
              · exact .inr (List.mem_flatMap.1 h)
            · rw [List.mem_singleton.1 hf]
              exact .inl (by kernel_rfl)
          have hLf : ∀ f ∈ L ++ [logF], f.b.length ≤ 200 ∧ f.name.size ≤ 200 := fun f hf => by
            rw [hL, List.append_assoc] at hf
            rcases List.mem_append.1 hf with hf | hf
            · exact hlf.2 f hf
            · rcases List.mem_append.1 hf with hf | hf
              · obtain ⟨n, hn, rfl⟩ := List.mem_map.1 hf
                rw [hO] at hn
                rcases putAll_mem _ _ _ hn with h | h
                · cases h
                · obtain ⟨e, he, hne⟩ := List.mem_flatMap.1 h
                  refine ⟨by show 3 ≤ 200; omega, few_names h1 n ?_⟩
                  unfold nmsTo
                  rw [List.take_length]
                  exact List.mem_append.2 (.inr (List.mem_flatMap.2 ⟨e, he, by unfold XEdge.all; simp [hne]⟩))
              · rw [List.mem_singleton.1 hf]
                exact ⟨by show 3 ≤ 200; omega, by decide⟩
          refine Goes.seq ?_
          refine Goes.region [2, 3, 7, 14] fun K hK => ?_; simp (maxSteps := 4000000) only [go_sem, g1]
          refine ⟨_, Tryz.call13, (cg _).mono ?_⟩
          rintro e σ1 ⟨rfl, rfl⟩
          simp only [go_sem]
          refine ⟨_, Tryz.call12, (eval_calls m (L ++ [logF]) ts (few_ok h1 (by simp only [List.length_append, List.length_cons, List.length_nil]; omega) hLf h3) _).mono ?_⟩
          rintro e σ1 ⟨rfl, rfl⟩
          simp only [go_sem, hevm, resF, resE, eD]
          refine hK _ _ ?_; clear hK K
          refine Goes.seq ?_
          refine Goes.seq ?_
          refine Goes.region [7, 17, 18] fun K hK => ?_; simp (maxSteps := 4000000) only [go_sem, bne_self_eq_false, hxl]
          refine hK _ _ ?_; clear hK K
          refine Goes.condF rfl ?_
          refine Goes.skip ?_
          refine Goes.seq ?_
          refine Goes.seq ?_
          refine Goes.region [7, 17] fun K hK => ?_; simp (maxSteps := 4000000) only [go_sem]
          refine hK _ _ ?_; clear hK K
          refine Goes.block ?_
          refine Goes.rebase [7, 17, 19] ?_
          simp only [go_sem]
          refine Goes.while (fun (i : Nat) env' σ'' => (i ≤ x.length) ∧ env' = [(7, .slc (x.map XFile.d)), (17, .slc (x.map XFile.d)), (19, .v (.int .i64 (i : Int)))] ∧ σ'' = [(b1, AObj.arr 2 [D.agg [.slc (m.edges.map XEdge.d), .slc (m.defs.map sD)]])]) (fun (i : Nat) => x.length - i) 0 ⟨by omega, rfl, rfl⟩ ?_
          rintro i env' σ'' ⟨hi, rfl, rfl⟩ ih
          have ih3 := ih
          refine Goes.seq ?_
          refine Goes.seq ?_
          refine Goes.region [7, 17, 19] fun K hK => ?_; simp (maxSteps := 4000000) only [go_sem, hxl]
          refine hK _ _ ?_; clear hK K
          refine Goes.cond rfl (fun h142 => ?_) (fun h142 => ?_)
          · have hlt : i < x.length := Int.ofNat_lt.1 (by simpa using h142)
            have hg := getD_map_lt XFile.d x i hlt
            rw [XFile.d] at hg
            have hi0 : (0 : Int) ≤ (i : Int) := by omega
            have hi1 : (i : Int) < (x.length : Int) := by omega
            refine Goes.skip ?_
            refine Goes.seq ?_
            refine Goes.block ?_
            refine Goes.seq ?_
            refine Goes.draw [7, 17, 19] [] [] [] [(0, true), (1, true), (2, true), (3, true), (4, true), (5, true), (6, true), (7, true), (8, true), (9, true), (10, true), (11, true), (12, true), (13, true), (14, true), (15, true), (16, true), (17, true), (18, true), (19, true), (20, true), (21, true), (22, true), (23, true), (24, true), (25, true)] (by kernel_rfl) (by decide) (by kernel_rfl) fun K hK => ?_; simp (maxSteps := 4000000) only [go_sem, hxl, hg, hi0, hi1, bytesOf_bD, BEq.rfl, bne_self_eq_false, Bool.not_true]
            refine ⟨byte_ok, byte_ok, ?_⟩
            refine hK _ _ ?_; clear hK K
            refine Goes.condF rfl ?_
            refine Goes.skip ?_
            refine Goes.inBlock ?_
            refine Goes.region [7, 17, 19] fun K hK => ?_; simp (maxSteps := 4000000) only [go_sem]
            refine hK _ _ ?_; clear hK K
            refine Goes.rebase [7, 17, 19] ?_
            simp only [go_sem]
            rw [wrap_succ i (by omega)]
            exact ih (i + 1) _ _ ⟨by omega, rfl, rfl⟩ (by omega)
          · refine Goes.exit rfl ?_
            refine Goes.seq ?_
            refine Goes.region [] fun K hK => ?_; simp (maxSteps := 4000000) only [go_sem]
            refine ⟨_, Tryz.call17, (awake_calls _).mono ?_⟩
            rintro e σ1 ⟨rfl, rfl⟩
            simp only [go_sem]
            refine hK _ _ ?_; clear hK K
            refine Goes.ret hC Tryz.func5 (by simp [go_sem]) ?_
            simp only [go_sem]
theorem smore_law (xs : List D) (h : WTvs [manT, .slice fileT, .slice .str] xs) : ACalls Tryz.prog 5 xs [] (fun e _ => e = .ret (.v (.bool true))) := by
  obtain ⟨d, ds, rfl, h1, d2, ds2, rfl, h2, d3, ds3, rfl, h3, h4⟩ := h
  unfold WTvs at h4
  subst h4
  obtain ⟨m, rfl⟩ := wt_man h1
  obtain ⟨l, hl⟩ := wt_files (h2.1 rfl)
  cases hl
  obtain ⟨ts, ht⟩ := wt_strs (h3.1 rfl)
  cases ht
  exact (smore_true m l ts []).mono fun e σ' h => h.1
end Go.Ab.S16
set_option linter.unusedSimpArgs false
set_option linter.unusedVariables false
set_option linter.constructorNameAsVariable false
namespace Go.Proofs.YticjnnmnjfpopaaGreatDoor
open Go.ChangeShapes Go.WideShapes Go.ChangeAt Go.RowKit Go.Ab
theorem own_knob : ownKnob Tryz.prog.godebug = none := by kernel_rfl
theorem laid_out : laidOutB Tryz.prog = true := by kernel_rfl
theorem cell_lt {w : World} {a : Addr} {v : Value} (h : w.cell? a = some v) : a.block < w.heap.size := by
  unfold World.cell? at h
  split at h
  · rename_i hb; exact (Array.getElem?_eq_some_iff.1 hb).1
  · cases h
/-- What the rows list. -/
def LL : List (String × DataW Unit) := Rows.scratchFitsRow.laid
theorem laid_plain : (LL.all fun x => x.2.handleName?.isNone) = true := by kernel_rfl
theorem laid_met (os : Os) (args : Array Value) : laidMetH Tryz.prog LL ((World.laidAll Tryz.prog os LL).forCall (fun _ _ => 0) ⟨#[], args, []⟩).memory := by
  rw [MakeChecks.laidMetH_plain _ _ _ laid_plain]
  exact laidMet_laidAll _ (by kernel_rfl) (by kernel_rfl)
theorem laid_shaped (os : Os) (args : Array Value) : ((World.laidAll Tryz.prog os LL).forCall (fun _ _ => 0) ⟨#[], args, []⟩).Shaped Tryz.prog :=
  World.shaped_of_ZipB (by kernel_rfl) (by kernel_rfl)
theorem laid_gok {W : World} (h : laidMetH Tryz.prog LL W) : GOk W (fun b => b < W.heap.size) := by
  rw [MakeChecks.laidMetH_plain _ _ _ laid_plain] at h
  intro g vs hg
  unfold glaid at hg
  simp only [glook] at hg
  split at hg
  · rename_i hgg
    subst hgg
    simp only [Option.some.injEq] at hg
    obtain ⟨g', t', cs, fuel, p, hg', ht', hv, hd⟩ := Lib.laidMet.reads h (show ("math/bits.deBruijn64tab", Rows.laid_math_bits_deBruijn64tab) ∈ LL from .tail _ (.head _))
    have hgn : Tryz.prog.globalNamed "math/bits.deBruijn64tab" = some 3 := by kernel_rfl
    have hty : (Tryz.prog.globals[3]?).map (·.type) = some 265 := by kernel_rfl
    obtain rfl := Option.some.inj (hgn.symm.trans hg')
    obtain rfl := Option.some.inj (hty.symm.trans ht')
    have hcs := Lib.cells_of_tab (n := 64) (k := .u8) (e := 5) (zs := vs.filterMap fun v => match v with | .int _ z => some z | _ => none) (by kernel_rfl) (by kernel_rfl) (by kernel_rfl) (by kernel_rfl) (by
      subst hg; exact hd)
    have hvs : (vs.filterMap fun v => match v with | .int _ z => some z | _ => none).map (fun z => Value.int .u8 z) = vs := by subst hg; rfl
    rw [hvs] at hcs
    have hcell : ∀ k x, vs[k]? = some x → W.cell? ⟨3, k, none⟩ = some x := fun k x hx => by
      rw [World.var?_cell hgn hv k]
      rw [← hcs] at hx
      simpa using hx
    have h0 : W.cell? ⟨3, 0, none⟩ = some (.int .u8 0) := hcell 0 _ (by subst hg; rfl)
    exact ⟨cell_lt h0, fun k x hx => by rw [Nat.zero_add]; exact hcell k x hx⟩
  · cases hg
end Go.Proofs.YticjnnmnjfpopaaGreatDoor
