/- Words for functions over a heap of which only parts are known: what a heap's cells name lies in it; new blocks behind it. -/
import Derived.Test.YtgnlibnnpipbhaaAbsQ
namespace Go.Abs
set_option linter.unusedVariables false
set_option linter.unusedSimpArgs false

def cellsIn (N : Nat) : AB → Bool
  | .ro cs => cs.all (below N)
  | .rw _ cs _ => cs.all (below N)
  | _ => true

/-- What the cells name lies in the heap. -/
def Closed (σ : List AB) : Prop := ∀ (n : Nat) (B : AB), σ[n]? = some B → cellsIn σ.length B = true

theorem MC.below {ρ : Pl} {N : Nat} {x : AV} {v : Value} (h : MC ρ N x v) : below N x = true := by
  cases x <;> simp only [MC] at h <;> simp only [Abs.below, decide_eq_true_eq, Bool.and_eq_true, List.all_eq_true]
  case p => exact h.1
  case sl => exact h.1
  case mp => exact h.1
  case fn => exact ⟨h.1, h.2.1⟩

theorem MC.low {ρ : Pl} {N N' : Nat} {x : AV} {v : Value} (h : MC ρ N x v) (hb : Abs.below N' x = true) : MC ρ N' x v := by
  cases x <;> simp only [MC] at h ⊢ <;> simp only [Abs.below, decide_eq_true_eq, Bool.and_eq_true, List.all_eq_true] at hb <;> first
    | exact h
    | exact ⟨hb, h.2⟩
    | exact ⟨hb.1, hb.2, h.2.2⟩

theorem Cells.below {ρ : Pl} {N : Nat} {c : Array Value} {o : Nat} {cs : List AV} (h : Cells ρ N c o cs) : cs.all (Abs.below N) = true := by
  rw [List.all_eq_true]
  intro x hx
  obtain ⟨k, hk⟩ := List.getElem?_of_mem hx
  obtain ⟨v, _, hm⟩ := h k x hk
  exact hm.below

theorem Cells.low {ρ : Pl} {N N' : Nat} {c : Array Value} {o : Nat} {cs : List AV} (h : Cells ρ N c o cs) (hb : cs.all (Abs.below N') = true) : Cells ρ N' c o cs := fun k x hk => by
  obtain ⟨v, h1, h2⟩ := h k x hk
  exact ⟨v, h1, h2.low (List.all_eq_true.1 hb x (List.mem_of_getElem? hk))⟩

theorem Sim.closed {F : Fr} {ρ : Pl} {σ : List AB} {w : World} (h : Sim F ρ σ w) : Closed σ := by
  intro n B hn
  have hb := h.bl n B hn
  cases B with
  | dead => rfl
  | mb P k e c f => rfl
  | ro cs =>
    by_cases hc : cs = []
    · subst hc; rfl
    · obtain ⟨c, T, fr, _, h2⟩ := hb hc
      exact h2.below
  | rw ty cs r =>
    by_cases hr : r = 0
    · obtain rfl : cs = [] := List.eq_nil_of_length_eq_zero (by have := hb.1; omega)
      rfl
    · obtain ⟨_, c, _, _, h2⟩ := hb.2 hr
      exact h2.below

theorem Holds.low {ρ : Pl} {N N' : Nat} {w : World} {a : Nat × Nat} {B : AB} (h : Holds ρ N w a B) (hb : cellsIn N' B = true) : Holds ρ N' w a B := by
  cases B with
  | dead => trivial
  | mb P k e c f => exact h
  | ro cs => intro hne; obtain ⟨c, T, fr, h1, h2⟩ := h hne; exact ⟨c, T, fr, h1, h2.low hb⟩
  | rw ty cs r => exact ⟨h.1, fun hr => by obtain ⟨h1, c, h2, h3, h4⟩ := h.2 hr; exact ⟨h1, c, h2, h3, h4.low hb⟩⟩

/-- Blocks behind are forgotten. -/
theorem Sim.drop {F : Fr} {ρ : Pl} {σ τ : List AB} {w : World} (h : Sim F ρ (σ ++ τ) w) (hc : Closed σ) : Sim F ρ σ w := by
  have hat : ∀ n B, σ[n]? = some B → (σ ++ τ)[n]? = some B := fun n B hn => by rw [List.getElem?_append_left (List.getElem?_eq_some_iff.1 hn).1]; exact hn
  exact ⟨h.os, h.tape, h.out, h.sz, h.fr, fun n B hn => (h.bl n B (hat n B hn)).low (hc n B hn), fun n B hn hW => ⟨(h.own n B (hat n B hn) hW).1, fun m B' hm hB hd => (h.own n B (hat n B hn) hW).2 m B' hm (hat m B' hB) hd⟩⟩

theorem MCs.low {ρ : Pl} {N N' : Nat} : ∀ {l : List AV} {vs : List Value}, MCs ρ N l vs → l.all (Abs.below N') = true → MCs ρ N' l vs
  | [], [], _, _ => trivial
  | _ :: _, _ :: _, h, hb => by simp only [List.all_cons, Bool.and_eq_true] at hb; exact ⟨h.1.low hb.1, MCs.low h.2 hb.2⟩
  | [], _ :: _, h, _ => h.elim
  | _ :: _, [], h, _ => h.elim

theorem M1.low {ρ : Pl} {N N' : Nat} {x : AV} {v : Value} (h : M1 ρ N x v) (hb : below1 N' x = true) : M1 ρ N' x v := by
  cases x
  case agg l => obtain ⟨vs, h1, h2⟩ := h; exact ⟨vs, h1, h2.low hb⟩
  all_goals (simp only [M1] at h ⊢; exact h.low hb)

theorem M1s.low {ρ : Pl} {N N' : Nat} : ∀ {l : List AV} {vs : List Value}, M1s ρ N l vs → l.all (below1 N') = true → M1s ρ N' l vs
  | [], [], _, _ => trivial
  | _ :: _, _ :: _, h, hb => by simp only [List.all_cons, Bool.and_eq_true] at hb; exact ⟨h.1.low hb.1, M1s.low h.2 hb.2⟩
  | [], _ :: _, h, _ => h.elim
  | _ :: _, [], h, _ => h.elim

theorem M.low {ρ : Pl} {N N' : Nat} {x : AV} {v : Value} (h : M ρ N x v) (hb : belowT N' x = true) : M ρ N' x v := by
  cases x
  case tup l => obtain ⟨vs, h1, h2⟩ := h; exact ⟨vs, h1, h2.low hb⟩
  case j => trivial
  all_goals (simp only [M] at h ⊢; exact M1.low h hb)

theorem MCs.below {ρ : Pl} {N : Nat} : ∀ {l : List AV} {vs : List Value}, MCs ρ N l vs → l.all (Abs.below N) = true
  | [], [], _ => rfl
  | _ :: _, _ :: _, h => by simp only [List.all_cons, Bool.and_eq_true]; exact ⟨h.1.below, MCs.below h.2⟩
  | [], _ :: _, h => h.elim
  | _ :: _, [], h => h.elim
theorem M1.below {ρ : Pl} {N : Nat} {x : AV} {v : Value} (h : M1 ρ N x v) : below1 N x = true := by
  cases x
  case agg l => obtain ⟨vs, h1, h2⟩ := h; exact h2.below
  all_goals (simp only [M1] at h; exact h.below)
theorem M1s.below {ρ : Pl} {N : Nat} : ∀ {l : List AV} {vs : List Value}, M1s ρ N l vs → l.all (below1 N) = true
  | [], [], _ => rfl
  | _ :: _, _ :: _, h => by simp only [List.all_cons, Bool.and_eq_true]; exact ⟨h.1.below, M1s.below h.2⟩
  | [], _ :: _, h => h.elim
  | _ :: _, [], h => h.elim

theorem Wk.drop {L0 nt : Nat} {T T1 : List (Nat × AV)} {σ τ : List AB} (hc : Closed σ) (hL : L0 ≤ σ.length) (hT : ∀ p ∈ T1, look T p.1 = p.2 ∧ belowT σ.length p.2 = true) : Wk L0 nt ⟨T, σ ++ τ⟩ ⟨T1, σ⟩ := by
  intro F ρ a w _ hs
  refine ⟨ρ, fun _ _ => rfl, hL, hs.1.drop hc, hs.2.1, hs.2.2.1, fun t => ?_⟩
  rcases look_mem (T := T1) (t := t) with ⟨p, hp, h1, h2⟩ | h2
  · have h3 := hs.2.2.2 t
    simp only at h3 ⊢
    subst h1
    rw [(hT p hp).1] at h3
    rw [h2]
    exact h3.low (hT p hp).2
  · simp only [h2]; trivial

theorem below_mono {N N' : Nat} (h : N ≤ N') {x : AV} (hb : Abs.below N x = true) : Abs.below N' x = true := by
  cases x <;> simp only [Abs.below, decide_eq_true_eq, Bool.and_eq_true, List.all_eq_true] at hb ⊢ <;> first
    | omega
    | exact ⟨fun y hy => by have := hb.1 y hy; omega, fun y hy => by have := hb.2 y hy; omega⟩
theorem cellsIn_mono {N N' : Nat} (h : N ≤ N') {B : AB} (hb : cellsIn N B = true) : cellsIn N' B = true := by
  cases B <;> simp only [cellsIn, List.all_eq_true] at hb ⊢ <;> first | rfl | exact fun x hx => below_mono h (hb x hx)
theorem Closed.add {σ τ : List AB} (h : Closed σ) (ht : τ.all (cellsIn (σ.length + τ.length)) = true) : Closed (σ ++ τ) := by
  intro n B hn
  rw [List.length_append]
  rcases Nat.lt_or_ge n σ.length with h1 | h1
  · rw [List.getElem?_append_left h1] at hn
    exact cellsIn_mono (by omega) (h n B hn)
  · rw [List.getElem?_append_right h1] at hn
    exact List.all_eq_true.1 ht B (List.mem_of_getElem? hn)
theorem Wk.drop2 {L0 nt : Nat} {T T1 : List (Nat × AV)} {σ : List AB} (τ τ' : List AB) (hc : Closed σ) (ht : τ.all (cellsIn (σ.length + τ.length)) = true) (hL : L0 ≤ σ.length) (hT : ∀ p ∈ T1, look T p.1 = p.2 ∧ belowT (σ.length + τ.length) p.2 = true) : Wk L0 nt ⟨T, σ ++ (τ ++ τ')⟩ ⟨T1, σ ++ τ⟩ := by
  rw [← List.append_assoc]
  exact Wk.drop (hc.add ht) (by simp; omega) (by simpa using hT)

theorem Fin.drop {L0 : Nat} {σ τ : List AB} {v : AV} {K : AV → List AB → Prop} (hc : Closed σ) (hL : L0 ≤ σ.length) (hb : belowT σ.length v = true) (hk : K v σ) : Fin L0 (σ ++ τ) v K :=
  fun F ρ w cv _ hs hm => ⟨σ, v, ρ, fun _ _ => rfl, hL, hs.drop hc, hm.low hb, hk⟩

theorem Fin.plain' {L0 : Nat} {σ : List AB} {v : AV} {K : AV → List AB → Prop} (hk : K v σ) : Fin L0 σ v K := Fin.plain hk

/-- A function's call; its heap names nothing outside. -/
theorem call_fnC {P : Program} (hm : P.follows .mixedOrders = true) {f : FuncId} {fn : Func} {nt : Nat} {lc : LC} {rs : List RV} (hf : P.funcs[f]? = some fn) (hc : chkF P fn nt lc rs = true) {args : List AV} {σ : List AB} {K : AV → List AB → Prop}
    (hn : args.length ≤ nt) (hw : Closed σ → args.all (below1 σ.length) = true → wpC P σ.length nt lc (retP σ.length rs K) ⟨initT 0 args, σ⟩) : CallWp P f args σ K := by
  refine ⟨?_, fun F ρ w vs hs hv => (call_fn hm hf hc hn (hw hs.closed hv.below)).2 F ρ w vs hs hv⟩
  simp only [chkF, Bool.and_eq_true, beq_iff_eq, Bool.not_eq_true'] at hc
  obtain ⟨⟨⟨_, h2⟩, h3⟩, _⟩ := hc
  split at h3
  · rename_i code hb
    exact ⟨fn, hf, h2, by rw [hb]; rfl⟩
  · cases h3

/-- Enters, and its heap names nothing outside. -/
theorem CallWp.closed {P : Program} {f : FuncId} {args : List AV} {σ : List AB} {K : AV → List AB → Prop} (h0 : Enters P f) (h : Closed σ → CallWp P f args σ K) : CallWp P f args σ K :=
  ⟨h0, fun F ρ w vs hs hv => (h hs.closed).2 F ρ w vs hs hv⟩

/-! ### blocks behind a heap -/
theorem at_new (σ τ : List AB) (k : Nat) : (σ ++ τ)[σ.length + k]? = τ[k]? := by rw [List.getElem?_append_right (by omega)]; congr 1; omega
theorem at_new0 (σ τ : List AB) : (σ ++ τ)[σ.length]? = τ[0]? := at_new σ τ 0
theorem at_old {σ : List AB} {n : Nat} {B : AB} (h : σ[n]? = some B) (τ : List AB) : (σ ++ τ)[n]? = some B := by rw [List.getElem?_append_left (List.getElem?_eq_some_iff.1 h).1]; exact h
theorem set_new (σ τ : List AB) (k : Nat) (B : AB) : (σ ++ τ).set (σ.length + k) B = σ ++ τ.set k B := by rw [List.set_append, if_neg (by omega)]; congr 2; omega
theorem set_new0 (σ τ : List AB) (B : AB) : (σ ++ τ).set σ.length B = σ ++ τ.set 0 B := set_new σ τ 0 B
theorem set_old {σ : List AB} {n : Nat} (h : n < σ.length) (τ : List AB) (B : AB) : (σ ++ τ).set n B = σ.set n B ++ τ := by rw [List.set_append, if_pos h]
theorem cells_old {σ : List AB} {n : Nat} {cs : List AV} (h : cellsOf σ n = some cs) (τ : List AB) : cellsOf (σ ++ τ) n = some cs := by
  rcases cellsOf_cases h with h | ⟨ty, r, h⟩
  · simp only [cellsOf, at_old h]
  · simp only [cellsOf, at_old h]
theorem cells_lt {σ : List AB} {n : Nat} {cs : List AV} (h : cellsOf σ n = some cs) : n < σ.length := by
  rcases cellsOf_cases h with h | ⟨ty, r, h⟩ <;> exact (List.getElem?_eq_some_iff.1 h).1
theorem onC_old {σ : List AB} {n : Nat} {cs : List AV} (h : cellsOf σ n = some cs) (τ : List AB) (f : List AV → Prop) : onC (σ ++ τ)[n]? f = f cs := onC_of (cells_old h τ) f

/-- An element of a slice that reads. -/
theorem Rd.at {α : Type} {E : Enc α} {σ : List AB} {v : AV} {L : List α} (h : Rd E σ v L) {k : Nat} (hk : k < L.length) :
    ∃ n o cap cs, v = .sl n o L.length cap ∧ cellsOf σ n = some cs ∧ o + k * E.k + E.k ≤ cs.length ∧ win cs (o + k * E.k) E.k = E.f L[k] ∧ ∀ j, j < E.k → o + k * E.k + j < cs.length ∧ rd cs (o + k * E.k + j) = rd (E.f L[k]) j := by
  rcases h with ⟨n, o, cap, cs, rfl, hn, hc, hle, hw⟩ | ⟨_, rfl, _⟩
  · exact ⟨n, o, cap, cs, rfl, hc, (win_at hle hw k hk).1, (win_at hle hw k hk).2, fun j hj => rd_at hle hw k hk j hj⟩
  · simp at hk

/-- A variable that is held by a block of its own. -/
def Var (σ : List AB) (x : Nat × Nat) (v : AV) : Prop := ∃ cs, cellsOf σ x.1 = some cs ∧ x.2 < cs.length ∧ rd cs x.2 = v
theorem Var.app {σ : List AB} {x : Nat × Nat} {v : AV} (h : Var σ x v) (τ : List AB) : Var (σ ++ τ) x v := by
  obtain ⟨cs, h1, h2⟩ := h
  exact ⟨cs, cells_old h1 τ, h2⟩

theorem Enc.row_bel {α : Type} (E : Enc α) (L : List α) (N : Nat) : (E.row L).all (Abs.below N) = true := all_flat (E.row_flat L)

/-! ### a heap seen anew: the elder part stays, of the new blocks some are kept, under new names -/
def gR (N : Nat) (ν : List Nat) (n : Nat) : Nat × Nat := if n < N then (n, 0) else (N + ν.getD (n - N) 0, 0)
theorem gR_lt {N : Nat} {ν : List Nat} {n : Nat} (h : n < N) : gR N ν n = (n, 0) := by simp [gR, h]
theorem gR_new (N : Nat) (ν : List Nat) (k : Nat) : gR N ν (N + k) = (N + ν.getD k 0, 0) := by rw [gR, if_neg (by omega), Nat.add_sub_cancel_left]
theorem gR_new0 (N : Nat) (ν : List Nat) : gR N ν N = (N + ν.getD 0 0, 0) := gR_new N ν 0

theorem renC_low {ν : Nat → Nat × Nat} {N : Nat} (hν : ∀ n, n < N → ν n = (n, 0)) {x : AV} (h : Abs.below N x = true) : renC ν x = x := by
  cases x <;> simp only [Abs.below, decide_eq_true_eq, Bool.and_eq_true, List.all_eq_true] at h <;> simp only [renC]
  case p => rw [hν _ h]; simp
  case sl => rw [hν _ h]; simp
  case mp => rw [hν _ h]
  case fn f a c =>
    have hm : ∀ l : List (Nat × Nat), (∀ y ∈ l, y.1 < N) → l.map (rnp ν) = l := by
      intro l hl
      induction l with
      | nil => rfl
      | cons y l ih =>
        rw [List.map_cons, ih fun z hz => hl z (by simp [hz])]
        simp only [rnp, hν _ (hl y (by simp)), Nat.zero_add]
    rw [hm a h.1, hm c h.2]

theorem map_low {ν : Nat → Nat × Nat} {N : Nat} (hν : ∀ n, n < N → ν n = (n, 0)) {l : List AV} (h : l.all (Abs.below N) = true) : l.map (renC ν) = l := by
  rw [List.all_eq_true] at h
  induction l with
  | nil => rfl
  | cons x l ih => rw [List.map_cons, renC_low hν (h x (by simp)), ih fun y hy => h y (by simp [hy])]

theorem fit_low {ν : Nat → Nat × Nat} {N N0 : Nat} (hν : ∀ n, n < N → ν n = (n, 0)) (hN : N ≤ N0) {σ : List AB} {m : Nat} {B : AB} (hm : σ[m]? = some B) (hB : cellsIn N B = true) : FitW ν N0 σ (m, 0) B := by
  cases B with
  | dead => trivial
  | mb P k e c f => exact ⟨rfl, hm⟩
  | ro cs =>
    refine ⟨List.all_eq_true.2 fun x hx => below_mono hN (List.all_eq_true.1 hB x hx), .inr ⟨cs, by simp [cellsOf, hm], by simp, ?_⟩⟩
    rw [map_low hν hB]; simp [win]
  | rw ty cs r => exact .inr ⟨List.all_eq_true.2 fun x hx => below_mono hN (List.all_eq_true.1 hB x hx), rfl, by rw [map_low hν hB]; exact hm⟩

theorem gR_fits {σ τ τ1 : List AB} (hc : Closed σ) (ν : List Nat) (hτ : τ1 = pickB τ ν) (hlt : ltAll τ.length ν = true) (hn : nodup ν = true) (hf : τ1.all (cellsIn σ.length) = true) : FitsW (gR σ.length ν) (σ ++ τ) (σ ++ τ1) := by
  have hν : ∀ n, n < σ.length → gR σ.length ν n = (n, 0) := fun n h => gR_lt h
  have hl1 : τ1.length = ν.length := by rw [hτ]; simp [pickB]
  refine ⟨fun n B hB => ?_, fun n B m B' hB _ hB' _ hne => ?_⟩
  · rcases Nat.lt_or_ge n σ.length with h | h
    · rw [List.getElem?_append_left h] at hB
      rw [gR_lt h]
      exact fit_low hν (by simp) (at_old hB τ) (hc n B hB)
    · rw [List.getElem?_append_right h] at hB
      obtain ⟨k, rfl⟩ : ∃ k, n = σ.length + k := ⟨n - σ.length, by omega⟩
      rw [Nat.add_sub_cancel_left] at hB
      rw [gR_new]
      have hB2 := hB
      rw [hτ] at hB
      obtain ⟨h1, h2⟩ := pickB_at hB
      have hm : ν.getD k 0 < τ.length := by
        unfold ltAll at hlt
        rw [List.all_eq_true] at hlt
        have : ν.getD k 0 ∈ ν := by rw [List.getD_eq_getElem?_getD, List.getElem?_eq_getElem h1]; exact List.getElem_mem _
        simpa using hlt _ this
      refine fit_low hν (by simp) ?_ (List.all_eq_true.1 hf B (List.mem_of_getElem? hB2))
      rw [at_new, h2, List.getD_eq_getElem?_getD (l := τ), List.getElem?_eq_getElem hm]; rfl
  · have hn1 := (List.getElem?_eq_some_iff.1 hB).1
    have hm1 := (List.getElem?_eq_some_iff.1 hB').1
    rw [List.length_append] at hn1 hm1
    unfold gR
    split <;> split <;> simp only <;> try omega
    have := nodup_at hn (m - σ.length) (n - σ.length) (by omega) (by omega) (by omega)
    omega

theorem gR_pl (ρ : Pl) (N : Nat) (ν : List Nat) {n : Nat} (h : n < N) : pl ρ (gR N ν n) = ρ n := by rw [gR_lt h]; simp [pl]

theorem Fin.pickG {L0 : Nat} {σ τ : List AB} {v : AV} {K : AV → List AB → Prop} (hc : Closed σ) (hL : L0 ≤ σ.length) (ν : List Nat) (v1 : AV) (τ1 : List AB) (hk : K v1 (σ ++ τ1)) (hτ : τ1 = pickB τ ν := by rfl) (hlt : ltAll τ.length ν = true := by rfl) (hn : nodup ν = true := by rfl)
    (hf : τ1.all (cellsIn σ.length) = true := by simp [cellsIn, Enc.row_bel, below]) (hv : sees (gR σ.length ν) v v1 := by simp [sees, ren, ren1, renC, gR_new, gR_new0]) (hb : belowT (σ.length + τ1.length) v1 = true := by simp [belowT, below1, below]) : Fin L0 (σ ++ τ) v K := by
  intro F ρ w cv _ hs hm
  refine ⟨σ ++ τ1, v1, fun n => pl ρ (gR σ.length ν n), fun n hn' => gR_pl ρ _ _ (by omega), by rw [List.length_append]; omega, hs.ren (gR_fits hc ν hτ hlt hn hf), ?_, hk⟩
  exact hv.m (fun _ _ => rfl) hm (by rw [List.length_append]; exact hb)

theorem Wk.pickG {L0 nt : Nat} {T T1 : List (Nat × AV)} {σ τ τ1 : List AB} (hc : Closed σ) (hL : L0 ≤ σ.length) (ν : List Nat) (hT : ∀ p ∈ T1, belowT (σ.length + τ1.length) p.2 = true ∧ sees (gR σ.length ν) (look T p.1) p.2) (hτ : τ1 = pickB τ ν := by rfl) (hlt : ltAll τ.length ν = true := by rfl) (hn : nodup ν = true := by rfl)
    (hf : τ1.all (cellsIn σ.length) = true := by simp [cellsIn, Enc.row_bel, below]) : Wk L0 nt ⟨T, σ ++ τ⟩ ⟨T1, σ ++ τ1⟩ := by
  intro F ρ a w _ hs
  refine ⟨fun n => pl ρ (gR σ.length ν n), fun n hn' => gR_pl ρ _ _ (by omega), by simp only [List.length_append]; omega, hs.1.ren (gR_fits hc ν hτ hlt hn hf), hs.2.1, hs.2.2.1, fun t => ?_⟩
  rcases look_mem (T := T1) (t := t) with ⟨p, hp, h1, h2⟩ | h2
  · have h3 := hs.2.2.2 t
    simp only at h3 ⊢
    rw [h2]
    subst h1
    exact (hT p hp).2.m (fun _ _ => rfl) h3 (by rw [List.length_append]; exact (hT p hp).1)
  · simp only [h2]; trivial
end Go.Abs
