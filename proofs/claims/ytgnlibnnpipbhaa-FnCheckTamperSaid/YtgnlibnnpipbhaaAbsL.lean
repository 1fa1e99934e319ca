/- Words for proofs over the abstract heap: loops, calls whose arguments are read, rows of values. -/
import Derived.Test.YtgnlibnnpipbhaaAbsK
namespace Go.Abs
universe u
set_option linter.unusedVariables false
set_option linter.unusedSimpArgs false

/-! ### what is asked grows with what is wanted -/
theorem wpI_mono {P : Program} : ∀ {l : List LI} {s : St} {K1 K2 : St → Prop}, (∀ s, K1 s → K2 s) → wpI P l s K1 → wpI P l s K2
  | [], _, _, _, h, hw => h _ hw
  | c :: l, s, K1, K2, h, hw => by
    simp only [wpI] at hw ⊢
    split at hw
    · exact wpO_mono (fun v σ hv => wpI_mono h hv) hw
    · split at hw
      · exact ⟨fun e => wpO_mono (fun v σ hv => wpI_mono h hv) (hw.1 e), fun e => wpI_mono h (hw.2 e)⟩
      · exact wpI_mono h hw
      · exact hw.elim

theorem wpP_mono {P : Program} {o : LO} {s : St} {K1 K2 : AV → Prop} (h : ∀ v, K1 v → K2 v) (hw : wpP P o s K1) : wpP P o s K2 := by
  cases o
  case call f l =>
    simp only [wpP] at hw ⊢
    split at hw
    · obtain ⟨hd, v, h1, h2⟩ := hw
      exact ⟨hd, v, h1, h v h2⟩
    · exact hw.elim
  all_goals
    simp only [wpP] at hw ⊢
    exact ⟨hw.1, wpO_mono (fun v _ hv => h v hv) hw.2⟩

theorem wpQ_mono {P : Program} : ∀ {h : Nat} {l : List LI} {s : St} {K1 K2 : List LI → St → Prop}, (∀ l s, K1 l s → K2 l s) → wpQ P h l s K1 → wpQ P h l s K2
  | 0, _, _, _, _, hk, hw => hk _ _ hw
  | _ + 1, [], _, _, _, _, hw => hw.elim
  | h + 1, c :: r, s, K1, K2, hk, hw => by
    simp only [wpQ] at hw ⊢
    split at hw
    · exact wpP_mono (fun v hv => wpQ_mono hk hv) hw
    · split at hw
      · exact ⟨fun e => wpP_mono (fun v hv => wpQ_mono hk hv) (hw.1 e), fun e => wpQ_mono hk (hw.2 e)⟩
      · exact wpQ_mono hk hw
      · exact hw.elim

theorem wpF_mono {P : Program} {l : List LI} {s : St} {K1 K2 : St → Prop} (h : ∀ s, K1 s → K2 s) (hw : wpF P l s K1) : wpF P l s K2 := wpQ_mono (fun _ s hs => h s hs) hw

theorem wpPlan_mono {P : Program} : ∀ {p : Plan} {s : St} {K1 K2 : St → Prop}, (∀ s, K1 s → K2 s) → wpPlan P p s K1 → wpPlan P p s K2
  | .fin, _, _, _, h, hw => h _ hw
  | .alt p q, _, _, _, h, hw => ⟨wpPlan_mono h hw.1, wpPlan_mono h hw.2⟩
  | .one i c pend ix cs p, s, K1, K2, h, hw => by
    simp only [wpPlan] at hw ⊢
    split at hw
    · exact wpO_mono (fun v σ hv => ⟨hv.1, wpF_mono (fun s hs => wpPlan_mono h hs) hv.2⟩) hw
    · split at hw
      · exact ⟨fun e => wpO_mono (fun v σ hv => ⟨hv.1, wpF_mono (fun s hs => wpPlan_mono h hs) hv.2⟩) (hw.1 e), fun e => ⟨(hw.2 e).1, wpF_mono (fun s hs => wpPlan_mono h hs) (hw.2 e).2⟩⟩
      · exact ⟨hw.1, wpF_mono (fun s hs => wpPlan_mono h hs) hw.2⟩
      · exact hw.elim

theorem wpC_mono {P : Program} {L0 nt : Nat} : ∀ {c : LC} {Q1 Q2 : Exit → St → Prop} {s : St}, (∀ e s, Q1 e s → Q2 e s) → wpC P L0 nt c Q1 s → wpC P L0 nt c Q2 s := by
  intro c
  induction c with
  | skip => intro Q1 Q2 s h hw; exact h _ _ hw
  | seq a b iha ihb =>
    intro Q1 Q2 s h hw
    simp only [wpC] at hw ⊢
    refine iha (fun e s' hh => ?_) hw
    cases e with
    | normal => exact ihb h hh
    | _ => exact h _ _ hh
  | cond c a b iha ihb =>
    intro Q1 Q2 s h hw
    simp only [wpC] at hw ⊢
    split at hw
    · exact ⟨fun e => iha h (hw.1 e), fun e => ihb h (hw.2 e)⟩
    · exact hw.elim
  | block id c ih =>
    intro Q1 Q2 s h hw
    simp only [wpC] at hw ⊢
    refine ih (fun e s' hh => ?_) hw
    cases e with
    | exit id' =>
      simp only at hh ⊢
      split
      · rename_i e; rw [if_pos e] at hh; exact h _ _ hh
      · rename_i e; rw [if_neg e] at hh; exact h _ _ hh
    | _ => exact h _ _ hh
  | loop c ih =>
    intro Q1 Q2 s h hw
    simp only [wpC] at hw ⊢
    obtain ⟨I, μ, h0, hr⟩ := hw
    refine ⟨I, μ, h0, fun s' hI => ih (fun e s'' hh => ?_) (hr s' hI)⟩
    cases e with
    | normal => exact hh
    | _ => exact h _ _ hh
  | exit id => intro Q1 Q2 s h hw; exact h _ _ hw
  | ret => intro Q1 Q2 s h hw; exact h _ _ hw
  | ops l => intro Q1 Q2 s h hw; exact wpI_mono (fun s hs => h _ _ hs) hw
  | draw k l => intro Q1 Q2 s h hw; exact wpQ_mono (fun l s hs => wpI_mono (fun s hs => h _ _ hs) hs) hw
  | cut c ih => intro Q1 Q2 s h hw; obtain ⟨s1, h1, h2⟩ := hw; exact ⟨s1, h1, ih h h2⟩
  | plan ix cs p => intro Q1 Q2 s h hw; exact wpF_mono (fun s hs => wpPlan_mono (fun s hs => h _ _ hs) hs) hw

/-! ### loops -/
/-- A loop whose states are told by an index. -/
theorem loop_intro {P : Program} {L0 nt : Nat} {c : LC} {Q : Exit → St → Prop} {s : St} {ι : Type} (Θ : ι → St) (J : ι → Prop) (μ : ι → Nat) (i0 : ι) (h0 : J i0) (hW : Wk L0 nt s (Θ i0))
    (step : ∀ i, J i → wpC P L0 nt c (fun e s'' => match e with | .normal => ∃ i', (J i' ∧ μ i' < μ i) ∧ Wk L0 nt s'' (Θ i') | e => Q e s'') (Θ i)) : wpC P L0 nt (.loop c) Q s := by
  let p : St → Nat → Prop := fun s n => ∃ i, J i ∧ s = Θ i ∧ μ i = n
  have hex : ∀ s, (∃ n, p s n) → ∃ n, p s n ∧ ∀ m, p s m → n ≤ m := fun s h => least h
  let μ' : St → Nat := fun s => open Classical in if h : ∃ n, p s n then Classical.choose (hex s h) else 0
  have hμ : ∀ s, (∃ n, p s n) → p s (μ' s) ∧ ∀ m, p s m → μ' s ≤ m := by
    intro s h
    have : μ' s = Classical.choose (hex s h) := by simp only [μ']; exact dif_pos h
    rw [this]
    exact Classical.choose_spec (hex s h)
  simp only [wpC]
  refine ⟨fun s => ∃ n, p s n, μ', ⟨Θ i0, hW, μ i0, i0, h0, rfl, rfl⟩, fun s' hs' => ?_⟩
  obtain ⟨⟨i, hi, rfl, hm⟩, _⟩ := hμ s' hs'
  rw [← hm]
  refine wpC_mono ?_ (step i hi)
  intro e s'' h
  cases e with
  | normal =>
    obtain ⟨i', ⟨hj, hlt⟩, hw⟩ := h
    refine ⟨Θ i', hw, ⟨μ i', i', hj, rfl, rfl⟩, ?_⟩
    have := (hμ (Θ i') ⟨μ i', i', hj, rfl, rfl⟩).2 (μ i') ⟨i', hj, rfl, rfl⟩
    omega
  | _ => exact h

/-- A loop that counts to n. -/
theorem loop_count {P : Program} {L0 nt : Nat} {c : LC} {Q : Exit → St → Prop} {s : St} (n : Nat) (Θ : Nat → St) (J : Nat → Prop) (h0 : J 0) (hW : Wk L0 nt s (Θ 0))
    (step : ∀ k, k ≤ n → J k → wpC P L0 nt c (fun e s'' => match e with | .normal => (k < n ∧ J (k + 1)) ∧ Wk L0 nt s'' (Θ (k + 1)) | e => Q e s'') (Θ k)) : wpC P L0 nt (.loop c) Q s := by
  refine loop_intro Θ (fun k => k ≤ n ∧ J k) (fun k => n - k) 0 ⟨Nat.zero_le _, h0⟩ hW fun k hk => ?_
  refine wpC_mono ?_ (step k hk.1 hk.2)
  intro e s'' h
  cases e with
  | normal => obtain ⟨⟨h1, h2⟩, h3⟩ := h; exact ⟨k + 1, ⟨⟨h1, h2⟩, by omega⟩, h3⟩
  | _ => exact h

/-- What stands behind a piece of code is walked once. -/
theorem seq_cut {P : Program} {L0 nt : Nat} {a b : LC} {Q : Exit → St → Prop} {s : St} (R : St → Prop)
    (ha : wpC P L0 nt a (fun e s' => match e with | .normal => R s' | e => Q e s') s) (hb : ∀ s', R s' → wpC P L0 nt b Q s') : wpC P L0 nt (.seq a b) Q s := by
  simp only [wpC]
  refine wpC_mono ?_ ha
  intro e s' h
  cases e with
  | normal => exact hb s' h
  | _ => exact h

/-- Where the ways of a piece of code come together. -/
def kJ (L0 nt : Nat) {ι : Type} (Θ : ι → St) (J : ι → Prop) (Q : Exit → St → Prop) : Exit → St → Prop := fun e s' => match e with | .normal => ∃ i, J i ∧ Wk L0 nt s' (Θ i) | e => Q e s'
theorem seq_join {P : Program} {L0 nt : Nat} {a b : LC} {Q : Exit → St → Prop} {s : St} {ι : Type} (Θ : ι → St) (J : ι → Prop) (ha : wpC P L0 nt a (kJ L0 nt Θ J Q) s) (hb : ∀ i, J i → wpC P L0 nt b Q (Θ i)) : wpC P L0 nt (.join a b) Q s := by
  unfold LC.join
  refine seq_cut (fun s' => ∃ i, J i ∧ Wk L0 nt s' (Θ i)) (wpC_mono (fun e s' h => ?_) ha) ?_
  · cases e <;> exact h
  · rintro s' ⟨i, hi, hW⟩
    exact ⟨Θ i, hW, hb i hi⟩

/-! ### the conditions on names, to be reckoned -/
def fitL (ν : Nat → Nat × Nat) (N0 : Nat) (σ : List AB) : Nat → List AB → Prop
  | _, [] => True
  | k, B :: r => FitB ν N0 σ (ν k) B ∧ fitL ν N0 σ (k + 1) r

def fitWL (ν : Nat → Nat × Nat) (N0 : Nat) (σ : List AB) : Nat → List AB → Prop
  | _, [] => True
  | k, B :: r => FitW ν N0 σ (ν k) B ∧ fitWL ν N0 σ (k + 1) r

def sep1 (ν : Nat → Nat × Nat) (n : Nat) : Nat → List AB → Prop
  | _, [] => True
  | k, B :: r => (isDead B = true ∨ k = n ∨ (ν k).1 ≠ (ν n).1) ∧ sep1 ν n (k + 1) r

def sepL (ν : Nat → Nat × Nat) (σ0 : List AB) : Nat → List AB → Prop
  | _, [] => True
  | k, B :: r => (isOw B = true → sep1 ν k 0 σ0) ∧ sepL ν σ0 (k + 1) r

theorem fitL_at {ν : Nat → Nat × Nat} {N0 : Nat} {σ : List AB} : ∀ {r : List AB} {k : Nat}, fitL ν N0 σ k r → ∀ n B, r[n]? = some B → FitB ν N0 σ (ν (k + n)) B
  | [], _, _, n, B, h => by simp at h
  | C :: r, k, hf, 0, B, h => by simp at h; subst h; exact hf.1
  | C :: r, k, hf, n + 1, B, h => by rw [show k + (n + 1) = k + 1 + n from by omega]; exact fitL_at hf.2 n B (by simpa using h)

theorem fitWL_at {ν : Nat → Nat × Nat} {N0 : Nat} {σ : List AB} : ∀ {r : List AB} {k : Nat}, fitWL ν N0 σ k r → ∀ n B, r[n]? = some B → FitW ν N0 σ (ν (k + n)) B
  | [], _, _, n, B, h => by simp at h
  | C :: r, k, hf, 0, B, h => by simp at h; subst h; exact hf.1
  | C :: r, k, hf, n + 1, B, h => by rw [show k + (n + 1) = k + 1 + n from by omega]; exact fitWL_at hf.2 n B (by simpa using h)

theorem sep1_at {ν : Nat → Nat × Nat} {m : Nat} : ∀ {r : List AB} {k : Nat}, sep1 ν m k r → ∀ n B, r[n]? = some B → isDead B = false → k + n ≠ m → (ν (k + n)).1 ≠ (ν m).1
  | [], _, _, n, B, h, _, _ => by simp at h
  | C :: r, k, hf, 0, B, h, hd, hne => by
    simp at h; subst h
    rcases hf.1 with h1 | h1 | h1
    · rw [hd] at h1; cases h1
    · exact absurd h1 hne
    · exact h1
  | C :: r, k, hf, n + 1, B, h, hd, hne => by
    rw [show k + (n + 1) = k + 1 + n from by omega] at hne ⊢; exact sep1_at hf.2 n B (by simpa using h) hd hne

theorem sepL_at {ν : Nat → Nat × Nat} {σ0 : List AB} : ∀ {r : List AB} {k : Nat}, sepL ν σ0 k r → ∀ n B, r[n]? = some B → isOw B = true → sep1 ν (k + n) 0 σ0
  | [], _, _, n, B, h, _ => by simp at h
  | C :: r, k, hf, 0, B, h, hr => by simp at h; subst h; exact hf.1 hr
  | C :: r, k, hf, n + 1, B, h, hr => by rw [show k + (n + 1) = k + 1 + n from by omega]; exact sepL_at hf.2 n B (by simpa using h) hr

theorem Fits.mk' {ν : Nat → Nat × Nat} {σ σ0 : List AB} (h1 : fitL ν σ0.length σ 0 σ0) (h2 : sepL ν σ0 0 σ0) : Fits ν σ σ0 := by
  refine ⟨fun n B hn => by have := fitL_at h1 n B hn; rwa [Nat.zero_add] at this, ?_⟩
  intro n B m B' hn hr hm hd hne
  have h3 := sepL_at h2 n B hn (by cases B <;> first | rfl | cases hr)
  rw [Nat.zero_add] at h3
  have := sep1_at h3 m B' hm hd (by omega)
  rwa [Nat.zero_add] at this

theorem FitsW.mk' {ν : Nat → Nat × Nat} {σ σ0 : List AB} (h1 : fitWL ν σ0.length σ 0 σ0) (h2 : sepL ν σ0 0 σ0) : FitsW ν σ σ0 := by
  refine ⟨fun n B hn => by have := fitWL_at h1 n B hn; rwa [Nat.zero_add] at this, ?_⟩
  intro n B m B' hn hr hm hd hne
  have h3 := sepL_at h2 n B hn hr
  rw [Nat.zero_add] at h3
  have := sep1_at h3 m B' hm hd (by omega)
  rwa [Nat.zero_add] at this

def idL : Nat → List Nat → Prop
  | 0, _ => True
  | n + 1, ν => ν.getD n 0 = n ∧ idL n ν

theorem idL_at : ∀ {L0 : Nat} {ν : List Nat}, idL L0 ν → ∀ n, n < L0 → ν.getD n 0 = n
  | 0, _, _, n, h => by omega
  | L0 + 1, ν, hi, n, h => by
    rcases Nat.lt_or_ge n L0 with h1 | h1
    · exact idL_at hi.2 n h1
    · obtain rfl : n = L0 := by omega
      exact hi.1

def seesT (ν : Nat → Nat × Nat) (T : List (Nat × AV)) (N : Nat) : List (Nat × AV) → Prop
  | [] => True
  | (t, v) :: r => (belowT N v = true ∧ sees ν (look T t) v) ∧ seesT ν T N r

theorem seesT_at {ν : Nat → Nat × Nat} {T : List (Nat × AV)} {N : Nat} : ∀ {r : List (Nat × AV)}, seesT ν T N r → ∀ p ∈ r, belowT N p.2 = true ∧ sees ν (look T p.1) p.2
  | [], _, p, h => by simp at h
  | (t, v) :: r, hs, p, h => by
    rcases List.mem_cons.1 h with rfl | h
    · exact hs.1
    · exact seesT_at hs.2 p h

/-- A state seen as another, its conditions to be reckoned. -/
theorem Wk.by {L0 nt : Nat} {T T1 : List (Nat × AV)} {σ σ1 : List AB} (ν : List Nat) (hL : L0 ≤ σ1.length) (hid : idL L0 ν) (hT : seesT (nat2 ν) T σ1.length T1) (h1 : fitWL (nat2 ν) σ1.length σ 0 σ1) (h2 : sepL (nat2 ν) σ1 0 σ1) : Wk L0 nt ⟨T, σ⟩ ⟨T1, σ1⟩ :=
  Wk.of ν hL (idL_at hid) ⟨seesT_at hT, FitsW.mk' h1 h2⟩

theorem Fin.by {L0 : Nat} {σ : List AB} {v : AV} {K : AV → List AB → Prop} (ν : List Nat) (v1 : AV) (σ1 : List AB) (hL : L0 ≤ σ1.length) (hid : idL L0 ν) (hv : sees (nat2 ν) v v1) (hb : belowT σ1.length v1 = true) (h1 : fitWL (nat2 ν) σ1.length σ 0 σ1) (h2 : sepL (nat2 ν) σ1 0 σ1) (hk : K v1 σ1) : Fin L0 σ v K :=
  Fin.of ν hL (idL_at hid) hv hb (FitsW.mk' h1 h2) hk

/-! ### values without names -/
def flat : AV → Bool
  | .b _ | .i _ _ | .s _ | .pn | .sn | .fnil | .j => true
  | _ => false

theorem renC_flat {ν : Nat → Nat × Nat} {x : AV} (h : flat x = true) : renC ν x = x := by cases x <;> first | rfl | cases h
theorem below_flat {N : Nat} {x : AV} (h : flat x = true) : below N x = true := by cases x <;> first | rfl | cases h
theorem map_flat {ν : Nat → Nat × Nat} {l : List AV} (h : l.all flat = true) : l.map (renC ν) = l := by
  induction l with
  | nil => rfl
  | cons x l ih => simp only [List.all_cons, Bool.and_eq_true] at h; simp [renC_flat h.1, ih h.2]
theorem all_flat {N : Nat} {l : List AV} (h : l.all flat = true) : l.all (below N) = true := by
  rw [List.all_eq_true] at h ⊢; exact fun x hx => below_flat (h x hx)

/-! ### rows of values -/
def encs {α : Type} (f : α → List AV) (L : List α) : List AV := L.flatMap f

theorem encs_nil {α : Type} (f : α → List AV) : encs f [] = [] := rfl
theorem encs_cons {α : Type} (f : α → List AV) (x : α) (L : List α) : encs f (x :: L) = f x ++ encs f L := by simp [encs]
theorem encs_append {α : Type} (f : α → List AV) (L R : List α) : encs f (L ++ R) = encs f L ++ encs f R := by simp [encs]

/-- A kind of rows: how many cells an element has, and which. -/
structure Enc (α : Type) where
  f : α → List AV
  k : Nat
  len : ∀ x, (f x).length = k
  flat : ∀ x, (f x).all Abs.flat = true

section
variable {α : Type} (E : Enc α)

def Enc.row (L : List α) : List AV := encs E.f L

theorem Enc.row_nil : E.row [] = [] := rfl
theorem Enc.row_append (L R : List α) : E.row (L ++ R) = E.row L ++ E.row R := encs_append _ _ _
theorem Enc.row_one (x : α) : E.row [x] = E.f x := by simp [Enc.row, encs]

theorem Enc.row_length : ∀ L : List α, (E.row L).length = L.length * E.k
  | [] => by simp [Enc.row, encs]
  | x :: L => by
    have := Enc.row_length L
    simp only [Enc.row] at this ⊢
    rw [encs_cons, List.length_append, E.len, this, List.length_cons, Nat.add_mul]; omega

theorem Enc.row_flat : ∀ L : List α, (E.row L).all Abs.flat = true
  | [] => rfl
  | x :: L => by
    have := Enc.row_flat L
    simp only [Enc.row] at this ⊢
    rw [encs_cons, List.all_append, E.flat x, this]; rfl

theorem Enc.win : ∀ (L : List α) (i : Nat) (h : i < L.length), Abs.win (E.row L) (i * E.k) E.k = E.f L[i]
  | x :: L, 0, _ => by
    simp only [Enc.row, encs_cons, Abs.win, Nat.zero_mul, List.drop_zero, List.getElem_cons_zero]
    rw [← E.len x, List.take_left']
    rfl
  | x :: L, i + 1, h => by
    have := Enc.win L i (by simpa using h)
    simp only [Enc.row, encs_cons, Abs.win] at this ⊢
    rw [Nat.add_mul, Nat.one_mul, Nat.add_comm, ← List.drop_drop, ← E.len x, List.drop_left']
    · simpa [E.len] using this
    · rfl

theorem Enc.rd (L : List α) (i j : Nat) (h : i < L.length) (hj : j < E.k) : Abs.rd (E.row L) (i * E.k + j) = Abs.rd (E.f L[i]) j := by
  rw [← E.win L i h]
  simp only [Abs.rd, Abs.win]
  rw [List.getElem?_take, if_pos hj, List.getElem?_drop]

/-- A part of a row. -/
theorem Enc.drop (L : List α) (i : Nat) : (E.row L).drop (i * E.k) = E.row (L.drop i) := by
  induction L generalizing i with
  | nil => simp [Enc.row, encs]
  | cons x L ih =>
    cases i with
    | zero => simp
    | succ i =>
      rw [List.drop_succ_cons, ← ih i]
      simp only [Enc.row, encs_cons]
      rw [Nat.add_mul, Nat.one_mul, Nat.add_comm, ← List.drop_drop, ← E.len x, List.drop_left']
      rfl

theorem Enc.take (L : List α) (i : Nat) : (E.row L).take (i * E.k) = E.row (L.take i) := by
  induction L generalizing i with
  | nil => simp [Enc.row, encs]
  | cons x L ih =>
    cases i with
    | zero => simp [Enc.row, encs]
    | succ i =>
      rw [List.take_succ_cons]
      have := ih i
      simp only [Enc.row, encs_cons] at this ⊢
      rw [Nat.add_mul, Nat.one_mul, ← this, Nat.add_comm, ← E.len x, List.take_append]
      congr 1
      · rw [List.take_of_length_le (by omega)]
      · congr 1; omega

theorem Enc.part (L : List α) (o n : Nat) : Abs.win (E.row L) (o * E.k) (n * E.k) = E.row ((L.drop o).take n) := by
  simp only [Abs.win]
  rw [E.drop, E.take]

theorem mid_eq (A X Y Z : List AV) (a k j : Nat) (hA : A.length = a) (hX : X.length = k) (hY : Y.length = k) :
    (if a ≤ j ∧ j < a + k then X[j - a]? else (A ++ (Y ++ Z))[j]?) = (A ++ (X ++ Z))[j]? := by
  by_cases h1 : j < a
  · rw [if_neg (by omega), List.getElem?_append_left (by omega), List.getElem?_append_left (by omega)]
  · rw [List.getElem?_append_right (l₁ := A) (l₂ := X ++ Z) (by omega), hA]
    by_cases h2 : j - a < k
    · rw [if_pos (by omega), List.getElem?_append_left (by omega)]
    · rw [if_neg (by omega), List.getElem?_append_right (l₁ := A) (by omega), hA, List.getElem?_append_right (l₁ := Y) (by omega), List.getElem?_append_right (l₁ := X) (by omega), hX, hY]

/-- One element written over. -/
theorem Enc.set (L : List α) (i : Nat) (h : i < L.length) (y : α) : spl (E.row L) (i * E.k) (E.f y) = E.row (L.set i y) := by
  apply List.ext_getElem?
  intro j
  have hfit : i * E.k + (E.f y).length ≤ (E.row L).length := by
    rw [E.row_length L, E.len]
    have : (i + 1) * E.k ≤ L.length * E.k := Nat.mul_le_mul_right _ h
    rw [Nat.add_mul, Nat.one_mul] at this
    exact this
  rw [spl_get _ _ _ _ hfit]
  have hset : E.row (L.set i y) = E.row (L.take i) ++ (E.f y ++ E.row (L.drop (i + 1))) := by
    rw [List.set_eq_take_append_cons_drop, if_pos h, E.row_append]
    simp [Enc.row, encs]
  have hL : E.row L = E.row (L.take i) ++ (E.f L[i] ++ E.row (L.drop (i + 1))) := by
    have e : L = L.take i ++ L[i] :: L.drop (i + 1) := by rw [← List.drop_eq_getElem_cons, List.take_append_drop]
    have e2 : E.row (L.take i ++ L[i] :: L.drop (i + 1)) = E.row (L.take i) ++ (E.f L[i] ++ E.row (L.drop (i + 1))) := by
      rw [E.row_append]
      congr 1
    rw [← e2, ← e]
  have ht : (E.row (L.take i)).length = i * E.k := by rw [E.row_length, List.length_take]; congr 1; omega
  rw [hset, hL, E.len y]
  exact mid_eq _ _ _ _ _ _ _ ht (E.len y) (E.len _)
end

/-- The integers. -/
def encInt : Enc Int := ⟨fun n => [.i .i64 n], 1, fun _ => rfl, fun _ => rfl⟩
/-- The bytes. -/
def encByte : Enc Nat := ⟨fun n => [.i .u8 n], 1, fun _ => rfl, fun _ => rfl⟩

/-! ### a slice that reads -/
/-- The value is a slice whose elements are L. -/
def Rd {α : Type} (E : Enc α) (σ : List AB) (v : AV) (L : List α) : Prop :=
  (∃ n o cap cs, v = .sl n o L.length cap ∧ n < σ.length ∧ cellsOf σ n = some cs ∧ o + L.length * E.k ≤ cs.length ∧ win cs o (L.length * E.k) = E.row L) ∨ (v = .sn ∧ L = [] ∧ 0 < σ.length)

/-- What a read slice is to a callee whose own heap begins with its row. -/
theorem Rd.fit {α : Type} {E : Enc α} {σ : List AB} {v : AV} {L : List α} (h : Rd E σ v L) :
    ∃ m : Nat × Nat, ∃ cap, m.1 < σ.length ∧ (∀ ν j, ν j = m → sees1 ν v (.sl j 0 L.length cap)) ∧ ∀ ν N0, FitB ν N0 σ m (.ro (E.row L)) := by
  rcases h with ⟨n, o, cap, cs, rfl, hn, hc, hle, hw⟩ | ⟨rfl, rfl, h0⟩
  · refine ⟨(n, o), cap, hn, fun ν j hj => .inl ?_, fun ν N0 => ⟨all_flat (E.row_flat L), .inr ⟨cs, hc, by rw [E.row_length]; exact hle, ?_⟩⟩⟩
    · simp [ren1, renC, hj]
    · rw [map_flat (E.row_flat L), E.row_length, hw]
  · exact ⟨(0, 0), 0, h0, fun ν j hj => .inr ⟨rfl, j, 0, rfl⟩, fun ν N0 => ⟨rfl, .inl rfl⟩⟩

theorem Rd.data {α : Type} {E : Enc α} {σ : List AB} {v : AV} {L : List α} (h : Rd E σ v L) : v.data = true := by
  rcases h with ⟨n, o, cap, cs, rfl, _⟩ | ⟨rfl, _⟩ <;> rfl

/-- A new name changes nothing for a slice that reads. -/
theorem Rd.app {α : Type} {E : Enc α} {σ τ : List AB} {v : AV} {L : List α} (h : Rd E σ v L) : Rd E (σ ++ τ) v L := by
  rcases h with ⟨n, o, cap, cs, rfl, hn, hc, hle, hw⟩ | ⟨rfl, rfl, h0⟩
  · refine .inl ⟨n, o, cap, cs, rfl, by simp; omega, ?_, hle, hw⟩
    unfold cellsOf at hc ⊢
    rw [List.getElem?_append_left hn]
    exact hc
  · exact .inr ⟨rfl, rfl, by simp; omega⟩

/-! ### calls -/
theorem seesL_flat {ν : Nat → Nat × Nat} : ∀ {l : List AV}, l.all flat = true → seesL ν l l
  | [], _ => trivial
  | x :: l, h => by
    simp only [List.all_cons, Bool.and_eq_true] at h
    refine ⟨.inl ?_, seesL_flat h.2⟩
    cases x <;> first | rfl | cases h.1

theorem below1_flat {N : Nat} {x : AV} (h : flat x = true) : below1 N x = true := by cases x <;> first | rfl | cases h
theorem ren_flat {ν : Nat → Nat × Nat} {x : AV} (h : flat x = true) : ren ν x = x := by cases x <;> first | rfl | cases h

def flat1 : AV → Bool
  | .agg l => l.all flat
  | x => flat x

theorem flat1_ren {ν : Nat → Nat × Nat} {x : AV} (h : flat1 x = true) : ren1 ν x = x := by
  cases x
  case agg l => simp only [ren1]; rw [map_flat h]
  all_goals first | rfl | cases h
theorem flat1_below {N : Nat} {x : AV} (h : flat1 x = true) : below1 N x = true := by
  cases x
  case agg l => exact all_flat h
  all_goals first | rfl | cases h
theorem flat1_renT {ν : Nat → Nat × Nat} {x : AV} (h : flat1 x = true) : ren ν x = x := by
  cases x
  case tup l => cases h
  all_goals exact flat1_ren (ν := ν) h
theorem seesL_flat1 {ν : Nat → Nat × Nat} : ∀ {l : List AV}, l.all flat1 = true → seesL ν l l
  | [], _ => trivial
  | x :: l, h => by
    simp only [List.all_cons, Bool.and_eq_true] at h
    exact ⟨.inl (flat1_ren h.1).symm, seesL_flat1 h.2⟩

/-- Arguments without names. -/
theorem call0 {P : Program} {f : FuncId} {args : List AV} {r : AV} {σ : List AB} {K : AV → List AB → Prop} (h : CallWp P f args [] fun x σ' => x = r ∧ σ' = []) (ha : args.all flat1 = true) (hr : flat1 r = true) (hk : K r σ) : CallWp P f args σ K := by
  refine call_same (ν := fun _ => (0, 0)) (K0 := fun x _ => x = r) h ⟨fun n B hn => by simp at hn, fun n B m B' hn => by simp at hn⟩ (fun n hn => by simp at hn) ?_ (seesL_flat1 ha) ?_
  · rw [List.all_eq_true] at ha ⊢; exact fun x hx => flat1_below (ha x hx)
  · rintro x rfl; rw [flat1_renT hr]; exact hk

/-! ### what the simplifier sees -/
@[congr] theorem CallWp_congr {P : Program} {f : FuncId} {args args' : List AV} {σ σ' : List AB} {K : AV → List AB → Prop} (h1 : args = args') (h2 : σ = σ') : CallWp P f args σ K = CallWp P f args' σ' K := by rw [h1, h2]
@[congr] theorem bc_congr {x y : Bool} {A B : Prop} (h : x = y) : bc x A B = bc y A B := by rw [h]
@[congr] theorem wpC_congr {P : Program} {L0 nt : Nat} {c : LC} {Q : Exit → St → Prop} {s s' : St} (h : s = s') : wpC P L0 nt c Q s = wpC P L0 nt c Q s' := by rw [h]
@[congr] theorem Fin_congr {L0 : Nat} {σ σ' : List AB} {v v' : AV} {K : AV → List AB → Prop} (h1 : σ = σ') (h2 : v = v') : Fin L0 σ v K = Fin L0 σ' v' K := by rw [h1, h2]

/-! The continuations get names, so that the simplifier does not walk into them. States are written out, so that they stay in normal form. -/
def kI (P : Program) (d : Option Nat) (r : List LI) (T : List (Nat × AV)) (K : St → Prop) : AV → List AB → Prop := fun v σ => match d with | some d => wpI P r ⟨(d, v) :: T, σ⟩ K | none => wpI P r ⟨T, σ⟩ K
def kQ (P : Program) (h : Nat) (d : Option Nat) (r : List LI) (T : List (Nat × AV)) (σ : List AB) (K : List LI → St → Prop) : AV → Prop := fun v => match d with | some d => wpQ P h r ⟨(d, v) :: T, σ⟩ K | none => wpQ P h r ⟨T, σ⟩ K
def kS (P : Program) (L0 nt : Nat) (b : LC) (Q : Exit → St → Prop) : Exit → St → Prop := fun e s' => match e with | .normal => wpC P L0 nt b Q s' | e => Q e s'
def kB (id : Nat) (Q : Exit → St → Prop) : Exit → St → Prop := fun e s' => match e with | .exit id' => if id' = id then Q .normal s' else Q (.exit id') s' | e => Q e s'
def kD (P : Program) (Q : Exit → St → Prop) : List LI → St → Prop := fun r s' => wpI P r s' (Q .normal)
/-! No rule here leaves a match to be reckoned by the kernel: every step is a rewriting. -/
theorem same {α : Sort u} {a b : α} (h : a = b) : a = b := h

def onB (v : AV) (f : Bool → Prop) : Prop := match v with | .b x => f x | _ => False
/-- A guard: a test's answer; or the test was not made. -/
def onG (v : AV) (f : Bool → Prop) (k : Prop) : Prop := match v with | .b x => f x | .tup [] => k | _ => False
def onI (v : AV) (f : IntKind → Int → Prop) : Prop := match v with | .i k x => f k x | _ => False
def onS (v : AV) (f : ByteArray → Prop) : Prop := match v with | .s x => f x | _ => False
def onP (v : AV) (f : Nat → Nat → Prop) : Prop := match v with | .p n o => f n o | _ => False
def onAg (v : AV) (f : List AV → Prop) : Prop := match v with | .agg l => f l | _ => False
def onTu (v : AV) (f : List AV → Prop) : Prop := match v with | .tup l => f l | _ => False
def onFn (v : AV) (f : Nat → List (Nat × Nat) → List (Nat × Nat) → Prop) : Prop := match v with | .fn g a c => f g a c | _ => False
def onC (B : Option AB) (f : List AV → Prop) : Prop := match B with | some (.ro cs) => f cs | some (.rw _ cs _) => f cs | _ => False
def onW (B : Option AB) (f : TypeId → List AV → Nat → Prop) : Prop := match B with | some (.rw ty cs r) => f ty cs r | _ => False
def onO {α : Type} (x : Option α) (f : α → Prop) : Prop := match x with | some x => f x | none => False
/-- A slice, or nil. -/
def onSl (v : AV) (f : Nat → Nat → Nat → Nat → Prop) (g : Prop) : Prop := match v with | .sl n o l c => f n o l c | .sn => g | _ => False
def onMp (v : AV) (f : Nat → Prop) : Prop := match v with | .mp n => f n | _ => False
def onJ (v : AV) (f : Int → Prop) : Prop := match v with | .i .i64 y => f y | _ => False
def onMb (B : Option AB) (f : Program → TypeId → TypeId → Nat → (Int → Option Int) → Prop) : Prop := match B with | some (.mb P k e c g) => f P k e c g | _ => False
def onNc (v : AV) (K : AV → Prop) : Prop := match v with | .p n o => K (.p n o) | .fn f a c => K (.fn f a c) | _ => False

theorem onB_b (x : Bool) (f : Bool → Prop) : onB (.b x) f = f x := same rfl
theorem onG_b (x : Bool) (f : Bool → Prop) (k : Prop) : onG (.b x) f k = f x := same rfl
theorem onG_u (f : Bool → Prop) (k : Prop) : onG (.tup []) f k = k := same rfl
theorem onI_i (k : IntKind) (x : Int) (f : IntKind → Int → Prop) : onI (.i k x) f = f k x := same rfl
theorem onS_s (x : ByteArray) (f : ByteArray → Prop) : onS (.s x) f = f x := same rfl
theorem onP_p (n o : Nat) (f : Nat → Nat → Prop) : onP (.p n o) f = f n o := same rfl
theorem onAg_agg (l : List AV) (f : List AV → Prop) : onAg (.agg l) f = f l := same rfl
theorem onTu_tup (l : List AV) (f : List AV → Prop) : onTu (.tup l) f = f l := same rfl
theorem onFn_fn (g : Nat) (a c : List (Nat × Nat)) (f : Nat → List (Nat × Nat) → List (Nat × Nat) → Prop) : onFn (.fn g a c) f = f g a c := same rfl
theorem onC_ro (cs : List AV) (f : List AV → Prop) : onC (some (.ro cs)) f = f cs := same rfl
theorem onC_rw (ty : TypeId) (cs : List AV) (r : Nat) (f : List AV → Prop) : onC (some (.rw ty cs r)) f = f cs := same rfl
theorem onW_rw (ty : TypeId) (cs : List AV) (r : Nat) (f : TypeId → List AV → Nat → Prop) : onW (some (.rw ty cs r)) f = f ty cs r := same rfl
theorem onO_some {α : Type} (x : α) (f : α → Prop) : onO (some x) f = f x := same rfl
theorem onSl_sl (n o l c : Nat) (f : Nat → Nat → Nat → Nat → Prop) (g : Prop) : onSl (.sl n o l c) f g = f n o l c := same rfl
theorem onSl_sn (f : Nat → Nat → Nat → Nat → Prop) (g : Prop) : onSl .sn f g = g := same rfl
theorem onMp_mp (n : Nat) (f : Nat → Prop) : onMp (.mp n) f = f n := same rfl
theorem onJ_i (y : Int) (f : Int → Prop) : onJ (.i .i64 y) f = f y := same rfl
theorem onMb_mb (P : Program) (k e : TypeId) (c : Nat) (g : Int → Option Int) (f : Program → TypeId → TypeId → Nat → (Int → Option Int) → Prop) : onMb (some (.mb P k e c g)) f = f P k e c g := same rfl
theorem onNc_p (n o : Nat) (K : AV → Prop) : onNc (.p n o) K = K (.p n o) := same rfl
theorem onNc_fn (f : Nat) (a c : List (Nat × Nat)) (K : AV → Prop) : onNc (.fn f a c) K = K (.fn f a c) := same rfl
@[congr] theorem onB_congr {v v' : AV} {f : Bool → Prop} (h : v = v') : onB v f = onB v' f := by rw [h]
@[congr] theorem onG_congr {v v' : AV} {f : Bool → Prop} {k : Prop} (h : v = v') : onG v f k = onG v' f k := by rw [h]
@[congr] theorem onI_congr {v v' : AV} {f : IntKind → Int → Prop} (h : v = v') : onI v f = onI v' f := by rw [h]
@[congr] theorem onS_congr {v v' : AV} {f : ByteArray → Prop} (h : v = v') : onS v f = onS v' f := by rw [h]
@[congr] theorem onP_congr {v v' : AV} {f : Nat → Nat → Prop} (h : v = v') : onP v f = onP v' f := by rw [h]
@[congr] theorem onAg_congr {v v' : AV} {f : List AV → Prop} (h : v = v') : onAg v f = onAg v' f := by rw [h]
@[congr] theorem onTu_congr {v v' : AV} {f : List AV → Prop} (h : v = v') : onTu v f = onTu v' f := by rw [h]
@[congr] theorem onFn_congr {v v' : AV} {f : Nat → List (Nat × Nat) → List (Nat × Nat) → Prop} (h : v = v') : onFn v f = onFn v' f := by rw [h]
@[congr] theorem onC_congr {v v' : Option AB} {f : List AV → Prop} (h : v = v') : onC v f = onC v' f := by rw [h]
@[congr] theorem onW_congr {v v' : Option AB} {f : TypeId → List AV → Nat → Prop} (h : v = v') : onW v f = onW v' f := by rw [h]
@[congr] theorem onO_congr {α : Type} {v v' : Option α} {f : α → Prop} (h : v = v') : onO v f = onO v' f := by rw [h]
@[congr] theorem onSl_congr {v v' : AV} {f : Nat → Nat → Nat → Nat → Prop} {g : Prop} (h : v = v') : onSl v f g = onSl v' f g := by rw [h]
@[congr] theorem onNc_congr {v v' : AV} {f : AV → Prop} (h : v = v') : onNc v f = onNc v' f := by rw [h]
@[congr] theorem onMp_congr {v v' : AV} {f : Nat → Prop} (h : v = v') : onMp v f = onMp v' f := by rw [h]
@[congr] theorem onJ_congr {v v' : AV} {f : Int → Prop} (h : v = v') : onJ v f = onJ v' f := by rw [h]
@[congr] theorem onMb_congr {B B' : Option AB} {f : Program → TypeId → TypeId → Nat → (Int → Option Int) → Prop} (h : B = B') : onMb B f = onMb B' f := by rw [h]
@[congr] theorem bnd_congr {v v' : Option AV} {d d' : Nat} {f : Nat → Prop} (h : v = v') (h2 : d = d') : bnd v d f = bnd v' d' f := by rw [h, h2]
theorem onC_get {σ : List AB} {n : Nat} (f : List AV → Prop) : (match cellsOf σ n with | some cs => f cs | none => False) = onC σ[n]? f := by
  unfold cellsOf onC
  generalize σ[n]? = B
  cases B with
  | none => rfl
  | some B => cases B <;> rfl

def kF (P : Program) (d : Option Nat) (r : List LI) (T : List (Nat × AV)) (σ : List AB) (K : St → Prop) : AV → Prop := fun v => match d with | some d => wpF P r ⟨(d, v) :: T, σ⟩ K | none => wpF P r ⟨T, σ⟩ K
def kN (P : Program) (p : Plan) (K : St → Prop) : St → Prop := fun s => wpPlan P p s K
def kH (P : Program) (d : Option Nat) (pend : List (Nat × Option Nat × Nat)) (cs : List LI) (p : Plan) (T : List (Nat × AV)) (K : St → Prop) : AV → List AB → Prop := fun v σ =>
  match d with
  | some d => stabs P ((d, v) :: T) σ pend ∧ wpF P cs ⟨(d, v) :: T, σ⟩ (kN P p K)
  | none => stabs P T σ pend ∧ wpF P cs ⟨T, σ⟩ (kN P p K)
def kE (T : List (Nat × AV)) (d : Nat) : AV → List AB → Prop := fun v _ => v = look T d
section
variable {P : Program} {L0 nt : Nat} {Q : Exit → St → Prop} {s : St} {T : List (Nat × AV)} {σ : List AB}
theorem kF_some (d : Nat) (r : List LI) (K : St → Prop) (v : AV) : kF P (some d) r T σ K v = wpF P r ⟨(d, v) :: T, σ⟩ K := same rfl
theorem kF_none (r : List LI) (K : St → Prop) (v : AV) : kF P none r T σ K v = wpF P r ⟨T, σ⟩ K := same rfl
theorem kN_app (p : Plan) (K : St → Prop) : kN P p K s = wpPlan P p s K := same rfl
theorem kH_some (d : Nat) (pend : List (Nat × Option Nat × Nat)) (cs : List LI) (p : Plan) (K : St → Prop) (v : AV) : kH P (some d) pend cs p T K v σ = (stabs P ((d, v) :: T) σ pend ∧ wpF P cs ⟨(d, v) :: T, σ⟩ (kN P p K)) := same rfl
theorem kH_none (pend : List (Nat × Option Nat × Nat)) (cs : List LI) (p : Plan) (K : St → Prop) (v : AV) : kH P none pend cs p T K v σ = (stabs P T σ pend ∧ wpF P cs ⟨T, σ⟩ (kN P p K)) := same rfl
theorem kE_app (d : Nat) (v : AV) : kE T d v σ = (v = look T d) := same rfl
theorem wpF_nil {K : St → Prop} : wpF P [] s K = K s := same rfl
theorem wpF_none {d : Option Nat} {o : LO} {r : List LI} {K : St → Prop} : wpF P (⟨d, none, o⟩ :: r) ⟨T, σ⟩ K = wpP P o ⟨T, σ⟩ (kF P d r T σ K) := by cases d <;> rfl
theorem wpF_some {d : Option Nat} {g : Nat} {b : Bool} {o : LO} {r : List LI} {K : St → Prop} : wpF P (⟨d, some (g, b), o⟩ :: r) ⟨T, σ⟩ K =
    onG (look T g) (fun x => bc (x == b) (wpP P o ⟨(g, .b b) :: T, σ⟩ (kF P d r ((g, .b b) :: T) σ K)) (kF P d r ((g, .b !b) :: T) σ K (.tup []))) (kF P d r T σ K (.tup [])) := by cases d <;> rfl
theorem wpPlan_fin {K : St → Prop} : wpPlan P .fin s K = K s := same rfl
theorem wpPlan_alt {p q : Plan} {K : St → Prop} : wpPlan P (.alt p q) s K = (wpPlan P p s K ∧ wpPlan P q s K) := same rfl
theorem wpPlan_one {i : Nat} {d : Option Nat} {o : LO} {pend : List (Nat × Option Nat × Nat)} {ix : List Nat} {cs : List LI} {p : Plan} {K : St → Prop} : wpPlan P (.one i ⟨d, none, o⟩ pend ix cs p) ⟨T, σ⟩ K = wpO P o ⟨T, σ⟩ (kH P d pend cs p T K) := by cases d <;> rfl
theorem wpPlan_guard {i : Nat} {d : Option Nat} {g : Nat} {b : Bool} {o : LO} {pend : List (Nat × Option Nat × Nat)} {ix : List Nat} {cs : List LI} {p : Plan} {K : St → Prop} : wpPlan P (.one i ⟨d, some (g, b), o⟩ pend ix cs p) ⟨T, σ⟩ K =
    onG (look T g) (fun x => bc (x == b) (wpO P o ⟨(g, .b b) :: T, σ⟩ (kH P d pend cs p ((g, .b b) :: T) K)) (kH P d pend cs p ((g, .b !b) :: T) K (.tup []) σ)) (kH P d pend cs p T K (.tup []) σ) := by cases d <;> rfl
theorem stabs_nil : stabs P T σ [] = True := same rfl
theorem stabs_ld (d t : Nat) (r : List (Nat × Option Nat × Nat)) : stabs P T σ ((d, none, t) :: r) = (wpO P (.ld (.t t)) ⟨T, σ⟩ (kE T d) ∧ stabs P T σ r) := same rfl
theorem stabs_ldn (d t k : Nat) (r : List (Nat × Option Nat × Nat)) : stabs P T σ ((d, some k, t) :: r) = (wpO P (.ldn k (.t t)) ⟨T, σ⟩ (kE T d) ∧ stabs P T σ r) := same rfl
theorem wpC_plan (ix : List Nat) (cs : List LI) (p : Plan) : wpC P L0 nt (.plan ix cs p) Q s = wpF P cs s (kN P p (Q .normal)) := same rfl
theorem kI_some (d : Nat) (r : List LI) (K : St → Prop) (v : AV) (σ : List AB) : kI P (some d) r T K v σ = wpI P r ⟨(d, v) :: T, σ⟩ K := same rfl
theorem kI_none (r : List LI) (K : St → Prop) (v : AV) (σ : List AB) : kI P none r T K v σ = wpI P r ⟨T, σ⟩ K := same rfl
theorem kQ_some (h : Nat) (d : Nat) (r : List LI) (K : List LI → St → Prop) (v : AV) : kQ P h (some d) r T σ K v = wpQ P h r ⟨(d, v) :: T, σ⟩ K := same rfl
theorem kQ_none (h : Nat) (r : List LI) (K : List LI → St → Prop) (v : AV) : kQ P h none r T σ K v = wpQ P h r ⟨T, σ⟩ K := same rfl
theorem kJ_normal {ι : Type} (Θ : ι → St) (J : ι → Prop) : kJ L0 nt Θ J Q .normal s = ∃ i, J i ∧ Wk L0 nt s (Θ i) := same rfl
theorem kJ_ret {ι : Type} (Θ : ι → St) (J : ι → Prop) : kJ L0 nt Θ J Q .ret s = Q .ret s := same rfl
theorem kJ_exit {ι : Type} (Θ : ι → St) (J : ι → Prop) (id : Nat) : kJ L0 nt Θ J Q (.exit id) s = Q (.exit id) s := same rfl
theorem kS_normal (b : LC) : kS P L0 nt b Q .normal s = wpC P L0 nt b Q s := same rfl
theorem kS_ret (b : LC) : kS P L0 nt b Q .ret s = Q .ret s := same rfl
theorem kS_exit (b : LC) (id : Nat) : kS P L0 nt b Q (.exit id) s = Q (.exit id) s := same rfl
theorem kB_normal (id : Nat) : kB id Q .normal s = Q .normal s := same rfl
theorem kB_ret (id : Nat) : kB id Q .ret s = Q .ret s := same rfl
theorem kB_exit (id id' : Nat) : kB id Q (.exit id') s = if id' = id then Q .normal s else Q (.exit id') s := same rfl
theorem kD_app (r : List LI) : kD P Q r s = wpI P r s (Q .normal) := same rfl
theorem wpC_skip : wpC P L0 nt .skip Q s = Q .normal s := same rfl
theorem wpC_seq (a b : LC) : wpC P L0 nt (.seq a b) Q s = wpC P L0 nt a (kS P L0 nt b Q) s := same rfl
theorem wpC_cond (c : X) (a b : LC) : wpC P L0 nt (.cond c a b) Q ⟨T, σ⟩ = onB (ev T c) fun x => bc x (wpC P L0 nt a Q ⟨T, σ⟩) (wpC P L0 nt b Q ⟨T, σ⟩) := same rfl
theorem wpC_block (id : Nat) (c : LC) : wpC P L0 nt (.block id c) Q s = wpC P L0 nt c (kB id Q) s := same rfl
theorem wpC_exit (id : Nat) : wpC P L0 nt (.exit id) Q s = Q (.exit id) s := same rfl
theorem wpC_ret : wpC P L0 nt .ret Q s = Q .ret s := same rfl
theorem wpC_ops (l : List LI) : wpC P L0 nt (.ops l) Q s = wpI P l s (Q .normal) := same rfl
theorem wpC_draw (h : Nat) (l : List LI) : wpC P L0 nt (.draw h l) Q s = wpQ P h l s (kD P Q) := same rfl
theorem wpI_nil {K : St → Prop} : wpI P [] s K = K s := same rfl
theorem wpI_none {d : Option Nat} {o : LO} {r : List LI} {K : St → Prop} : wpI P (⟨d, none, o⟩ :: r) ⟨T, σ⟩ K = wpO P o ⟨T, σ⟩ (kI P d r T K) := by cases d <;> rfl
theorem wpI_some {d : Option Nat} {g : Nat} {b : Bool} {o : LO} {r : List LI} {K : St → Prop} : wpI P (⟨d, some (g, b), o⟩ :: r) ⟨T, σ⟩ K =
    onG (look T g) (fun x => bc (x == b) (wpO P o ⟨(g, .b b) :: T, σ⟩ (kI P d r ((g, .b b) :: T) K)) (kI P d r ((g, .b !b) :: T) K (.tup []) σ)) (kI P d r T K (.tup []) σ) := by cases d <;> rfl
theorem wpQ_zero {l : List LI} {K : List LI → St → Prop} : wpQ P 0 l s K = K l s := by cases l <;> rfl
theorem wpQ_none {h : Nat} {d : Option Nat} {o : LO} {r : List LI} {K : List LI → St → Prop} : wpQ P (h + 1) (⟨d, none, o⟩ :: r) ⟨T, σ⟩ K = wpP P o ⟨T, σ⟩ (kQ P h d r T σ K) := by cases d <;> rfl
theorem wpQ_some {h : Nat} {d : Option Nat} {g : Nat} {b : Bool} {o : LO} {r : List LI} {K : List LI → St → Prop} : wpQ P (h + 1) (⟨d, some (g, b), o⟩ :: r) ⟨T, σ⟩ K =
    onG (look T g) (fun x => bc (x == b) (wpP P o ⟨(g, .b b) :: T, σ⟩ (kQ P h d r ((g, .b b) :: T) σ K)) (kQ P h d r ((g, .b !b) :: T) σ K (.tup []))) (kQ P h d r T σ K (.tup [])) := by cases d <;> rfl

theorem look_cons (d t : Nat) (v : AV) (r : List (Nat × AV)) : look ((d, v) :: r) t = if d = t then v else look r t := same rfl
theorem look_nil (t : Nat) : look [] t = .j := same rfl
theorem ev_t (n : Nat) : ev T (.t n) = look T n := same rfl
theorem ev_k (v : AV) : ev T (.k v) = v := same rfl
theorem rd_zero (x : AV) (l : List AV) : rd (x :: l) 0 = x := same rfl
theorem rd_succ (x : AV) (l : List AV) (n : Nat) : rd (x :: l) (n + 1) = rd l n := by simp [rd]

variable {K : AV → List AB → Prop}
theorem wpO_mv (x : X) : wpO P (.mv x) ⟨T, σ⟩ K = K (ev T x) σ := same rfl
theorem wpO_pick (c a b : X) : wpO P (.pick c a b) ⟨T, σ⟩ K = onB (ev T c) fun t => bc t (K (ev T a) σ) (K (ev T b) σ) := same rfl
theorem wpO_bin (op : BinOp) (x y : X) : wpO P (.bin op x y) ⟨T, σ⟩ K = onI (ev T x) fun k a => onI (ev T y) fun k' b => k = k' ∧ ibin op k a b fun v => K v σ := by
  simp only [wpO, onI]; generalize ev T x = a; generalize ev T y = c; cases a <;> cases c <;> rfl
theorem wpO_beq (neg : Bool) (x y : X) : wpO P (.beq neg x y) ⟨T, σ⟩ K = onB (ev T x) fun a => onB (ev T y) fun c => K (.b (if neg then decide (a ≠ c) else decide (a = c))) σ := by
  simp only [wpO, onB]; generalize ev T x = a; generalize ev T y = c; cases a <;> cases c <;> rfl
theorem wpO_aeq (neg : Bool) (q : List Bool) (x y : X) : wpO P (.aeq neg q x y) ⟨T, σ⟩ K = onAg (ev T x) fun a => onAg (ev T y) fun c => aeqOk q a c ∧ K (.b (if neg then !(Abs.aeq a c) else Abs.aeq a c)) σ := by
  simp only [wpO, onAg]; generalize ev T x = a; generalize ev T y = c; cases a <;> cases c <;> rfl
theorem wpO_not (x : X) : wpO P (.not x) ⟨T, σ⟩ K = onB (ev T x) fun a => K (.b (!a)) σ := same rfl
theorem wpO_neg (x : X) : wpO P (.neg x) ⟨T, σ⟩ K = onI (ev T x) fun k a => fits k (-a) ∧ K (.i k (-a)) σ := same rfl
theorem wpO_ld (x : X) : wpO P (.ld x) ⟨T, σ⟩ K = onP (ev T x) fun n o => onC σ[n]? fun cs => o < cs.length ∧ K (rd cs o) σ := by
  simp only [wpO, onP]; generalize ev T x = a; cases a <;> first | rfl | exact onC_get _
theorem wpO_ldn (k : Nat) (x : X) : wpO P (.ldn k x) ⟨T, σ⟩ K = onP (ev T x) fun n o => onC σ[n]? fun cs => o + k ≤ cs.length ∧ K (.agg (win cs o k)) σ := by
  simp only [wpO, onP]; generalize ev T x = a; cases a <;> first | rfl | exact onC_get _
theorem wpO_st (k : Nat) (a x : X) : wpO P (.st k a x) ⟨T, σ⟩ K = onP (ev T a) fun n o => onW σ[n]? fun ty cs r => (ev T x).data = true ∧ (ev T x).cl.length = k ∧ o + k ≤ cs.length ∧ K .j (σ.set n (.rw ty (spl cs o (ev T x).cl) r)) := same rfl
theorem wpO_fa (d : Nat) (x : X) : wpO P (.fa d x) ⟨T, σ⟩ K = onP (ev T x) fun n o => K (.p n (o + d)) σ := same rfl
theorem wpO_ia (sz : Nat) (x i : X) : wpO P (.ia sz x i) ⟨T, σ⟩ K = onSl (ev T x) (fun n o len _ => onI (ev T i) fun _ j => (0 ≤ j ∧ j < len) ∧ K (.p n (o + j.toNat * sz)) σ) False := by
  simp only [wpO, onSl, onI]; generalize ev T x = a; generalize ev T i = c; cases a <;> cases c <;> rfl
theorem wpO_fld (d : Nat) (x : X) : wpO P (.fld d x) ⟨T, σ⟩ K = onAg (ev T x) fun l => d < l.length ∧ K (rd l d) σ := same rfl
theorem wpO_box (ty : TypeId) (x : X) : wpO P (.box ty x) ⟨T, σ⟩ K = ((ev T x).data = true ∧ K (.p σ.length 0) (σ ++ [.rw ty (ev T x).cl (ev T x).cl.length])) := same rfl
theorem wpO_alloc (ty : TypeId) (z : List AV) : wpO P (.alloc ty z) ⟨T, σ⟩ K = K (.p σ.length 0) (σ ++ [.rw ty z z.length]) := same rfl
theorem wpO_build (z : List AV) (parts : List (Nat × Nat × X)) : wpO P (.build z parts) ⟨T, σ⟩ K = fillP T z parts fun cs => K (.agg cs) σ := same rfl
theorem wpO_bsl (ty : TypeId) (z : List AV) (n : Nat) (parts : List (Nat × Nat × X)) : wpO P (.bsl ty z n parts) ⟨T, σ⟩ K = fillP T (rep n z) parts fun cs => K (.sl σ.length 0 n n) (σ ++ [.rw ty cs (n * z.length)]) := same rfl
theorem wpO_msl (ty : TypeId) (bytes : Nat) (z : List AV) (l : X) : wpO P (.msl ty bytes z l) ⟨T, σ⟩ K = onI (ev T l) fun _ n => (0 ≤ n ∧ (bytes : Int) * n ≤ 281474976710656) ∧ K (.sl σ.length 0 n.toNat n.toNat) (σ ++ [.rw ty (rep n.toNat z) (n.toNat * z.length)]) := same rfl
theorem wpO_len (x : X) : wpO P (.len x) ⟨T, σ⟩ K = onSl (ev T x) (fun _ _ n _ => K (.i .i64 n) σ) (K (.i .i64 0) σ) := same rfl
theorem wpO_slen (x : X) : wpO P (.slen x) ⟨T, σ⟩ K = onS (ev T x) fun b => K (.i .i64 b.size) σ := same rfl
theorem wpO_mn (x y : X) : wpO P (.mn x y) ⟨T, σ⟩ K = onI (ev T x) fun k a => onI (ev T y) fun _ c => K (.i k (if c < a then c else a)) σ := by
  simp only [wpO, onI]; generalize ev T x = a; generalize ev T y = c; cases a <;> cases c <;> rfl
theorem wpO_mx (x y : X) : wpO P (.mx x y) ⟨T, σ⟩ K = onI (ev T x) fun k a => onI (ev T y) fun _ c => K (.i k (if a < c then c else a)) σ := by
  simp only [wpO, onI]; generalize ev T x = a; generalize ev T y = c; cases a <;> cases c <;> rfl
theorem wpO_call (f : X) (args : List X) : wpO P (.call f args) ⟨T, σ⟩ K = onFn (ev T f) fun g a c => (args.map (ev T)).all AV.data = true ∧ CallWp P g (pAV a ++ args.map (ev T) ++ pAV c) σ K := same rfl
theorem wpO_mkf (f : Nat) (a c : List X) : wpO P (.mkf f a c) ⟨T, σ⟩ K = onO (toPs T a) fun a => onO (toPs T c) fun c => K (.fn f a c) σ := by
  simp only [wpO, onO]; generalize toPs T a = a; generalize toPs T c = c; cases a <;> cases c <;> rfl
theorem wpO_ext (i : Nat) (x : X) : wpO P (.ext i x) ⟨T, σ⟩ K = onTu (ev T x) fun l => i < l.length ∧ K (rd l i) σ := same rfl
theorem wpO_conv (k : IntKind) (x : X) : wpO P (.conv k x) ⟨T, σ⟩ K = onI (ev T x) fun _ n => fits k n ∧ K (.i k n) σ := same rfl
theorem wpO_nilc (x : X) : wpO P (.nilc x) ⟨T, σ⟩ K = onNc (ev T x) fun v => K v σ := same rfl
theorem wpO_mkm (k e : TypeId) : wpO P (.mkm k e) ⟨T, σ⟩ K = K (.mp σ.length) (σ ++ [.mb P k e 0 fun _ => none]) := same rfl
theorem wpO_lk (k e : TypeId) (m x : X) : wpO P (.lk k e m x) ⟨T, σ⟩ K = onMp (ev T m) fun n => onJ (ev T x) fun y => onMb σ[n]? fun P' k' e' _ f => (P' = P ∧ k' = k ∧ e' = e ∧ fits .i64 y) ∧ K (.tup [.i .i64 ((f y).getD 0), .b (f y).isSome]) σ := by
  simp only [wpO, onMp, onJ, onMb]; generalize ev T m = a; generalize ev T x = c; cases a <;> try rfl
  cases c <;> try rfl
  rename_i q _; cases q <;> rfl
theorem wpO_mup (k e : TypeId) (m x v : X) : wpO P (.mup k e m x v) ⟨T, σ⟩ K = onMp (ev T m) fun n => onJ (ev T x) fun y => onJ (ev T v) fun z => onMb σ[n]? fun P' k' e' c f => (P' = P ∧ k' = k ∧ e' = e ∧ fits .i64 y ∧ fits .i64 z ∧ c < 1099511627776) ∧ K .j (σ.set n (.mb P k e (c + 1) fun u => if u = y then some z else f u)) := by
  simp only [wpO, onMp, onJ, onMb]; generalize ev T m = a; generalize ev T x = c; generalize ev T v = d; cases a <;> try rfl
  cases c <;> try rfl
  rename_i q _; cases q <;> try rfl
  cases d <;> try rfl
  rename_i q _; cases q <;> rfl
theorem wpO_die : wpO P .die ⟨T, σ⟩ K = False := same rfl
theorem wpO_shr (x y : X) : wpO P (.shr x y) ⟨T, σ⟩ K = onI (ev T x) fun k a => onI (ev T y) fun _ b => (k = .u64 ∧ b = 32 ∧ 0 ≤ a) ∧ K (.i k (a / 4294967296)) σ := by
  simp only [wpO, onI]; generalize ev T x = a; generalize ev T y = c; cases a <;> cases c <;> rfl
theorem wpO_copy (x y : X) : wpO P (.copy x y) ⟨T, σ⟩ K = onSl (ev T x) (fun nx ox lx _ => onSl (ev T y) (fun n o m _ => onW σ[nx]? fun ty cs r => onC σ[n]? fun cs' => (ox + Nat.min m lx ≤ cs.length ∧ o + Nat.min m lx ≤ cs'.length) ∧ K (.i .i64 (Nat.min m lx)) (σ.set nx (.rw ty (spl cs ox (win cs' o (Nat.min m lx))) r))) False) False := by
  simp only [wpO, onSl]; generalize ev T x = a; generalize ev T y = c
  cases a <;> cases c <;> first | rfl | skip
  rename_i n1 o1 l1 c1 n2 o2 l2 c2
  simp only [onW, onC, cellsOf]
  generalize σ[n1]? = A; generalize σ[n2]? = B
  rcases A with _ | (_ | _ | _ | _) <;> rcases B with _ | (_ | _ | _ | _) <;> rfl
theorem wpO_slc_none (sz : Nat) (x : X) (hi mx : Option X) : wpO P (.slc sz x none hi mx) ⟨T, σ⟩ K = onSl (ev T x) (fun n o len cap => bnd (mx.map (ev T)) cap fun m => bnd (hi.map (ev T)) len fun h => ((hi.isSome = true → h ≤ m ∨ (mx.isSome = false ∧ h ≤ len)) ∧ (mx.isSome = true → m ≤ cap)) ∧ K (.sl n o h m) σ)
    (bnd (mx.map (ev T)) 0 fun m => bnd (hi.map (ev T)) 0 fun h => (h = 0 ∧ m = 0) ∧ K .sn σ) := by
  simp only [wpO, onSl]; generalize ev T x = a; cases a <;> first | rfl | simp [bnd]
theorem wpO_slc_some (sz : Nat) (x lo : X) (hi mx : Option X) : wpO P (.slc sz x (some lo) hi mx) ⟨T, σ⟩ K = onSl (ev T x) (fun n o len cap => bnd (mx.map (ev T)) cap fun m => bnd (hi.map (ev T)) len fun h =>
      bnd (some (ev T lo)) 0 fun l => (l ≤ h ∧ (hi.isSome = true → h ≤ m ∨ (mx.isSome = false ∧ h ≤ len)) ∧ (mx.isSome = true → m ≤ cap)) ∧ (m ≠ l → K (.sl n (o + l * sz) (h - l) (m - l)) σ) ∧ (m = l → K (.sl n o (h - l) (m - l)) σ))
    (bnd (mx.map (ev T)) 0 fun m => bnd (hi.map (ev T)) 0 fun h => bnd (some (ev T lo)) 0 fun l => (l = 0 ∧ h = 0 ∧ m = 0) ∧ K .sn σ) := by
  simp only [wpO, onSl]; generalize ev T x = a; cases a <;> rfl
theorem wpO_app (ty : TypeId) (sz bytes : Nat) (x y : X) : wpO P (.app ty sz bytes x y) ⟨T, σ⟩ K = onSl (ev T y)
    (fun n o m _ => onSl (ev T x)
      (fun nx ox len cap => onW σ[nx]? fun ty' old r => onC σ[n]? fun cs => (ty' = ty ∧ ox = 0 ∧ len * sz ≤ old.length ∧ r = cap * sz ∧ o + m * sz ≤ cs.length ∧ (len + m) * bytes ≤ 140737488355328 ∧ len + m ≤ 140737488355328) ∧
          ∀ cap', len + m ≤ cap' → K (.sl σ.length 0 (len + m) cap') (σ.set nx .dead ++ [.rw ty (old.take (len * sz) ++ win cs o (m * sz)) (cap' * sz)]))
      (onC σ[n]? fun cs => (o + m * sz ≤ cs.length ∧ m * bytes ≤ 140737488355328 ∧ m ≤ 140737488355328) ∧ (m = 0 → K .sn σ) ∧ (0 < m → ∀ cap, m ≤ cap → K (.sl σ.length 0 m cap) (σ ++ [.rw ty (win cs o (m * sz)) (cap * sz)]))))
    (onSl (ev T x) (fun nx ox len cap => len ≤ cap ∧ K (.sl nx ox len cap) σ) (K .sn σ)) := by
  simp only [wpO, onSl]; generalize ev T x = a; generalize ev T y = c
  cases a <;> cases c <;> first | rfl | skip
  · rename_i n1 o1 l1 c1 n2 o2 l2 c2
    simp only [onW, onC, cellsOf]
    generalize σ[n1]? = A; generalize σ[n2]? = B
    rcases A with _ | (_ | _ | _ | _) <;> rcases B with _ | (_ | _ | _ | _) <;> rfl
  · exact onC_get _
theorem wpO_appf (ty : TypeId) (sz bytes : Nat) (x y : X) : wpO P (.appf ty sz bytes x y) ⟨T, σ⟩ K = onSl (ev T x)
    (fun nx ox len cap => onSl (ev T y) (fun n o m _ => onC σ[nx]? fun old => onC σ[n]? fun cs => (ox + len * sz ≤ old.length ∧ len = cap ∧ o + m * sz ≤ cs.length ∧ (len + m) * bytes ≤ 140737488355328 ∧ len + m ≤ 140737488355328) ∧
          (m = 0 → K (.sl nx ox len cap) σ) ∧ (0 < m → ∀ cap', len + m ≤ cap' → K (.sl σ.length 0 (len + m) cap') (σ ++ [.rw ty (win old ox (len * sz) ++ win cs o (m * sz)) (cap' * sz)])))
      (len ≤ cap ∧ K (.sl nx ox len cap) σ))
    (onSl (ev T y) (fun _ _ _ _ => False) (K .sn σ)) := by
  simp only [wpO, onSl]; generalize ev T x = a; generalize ev T y = c
  cases a <;> cases c <;> first | rfl | skip
  rename_i n1 o1 l1 c1 n2 o2 l2 c2
  simp only [onC, cellsOf]
  generalize σ[n1]? = A; generalize σ[n2]? = B
  rcases A with _ | (_ | _ | _ | _) <;> rcases B with _ | (_ | _ | _ | _) <;> rfl

theorem bnd_none (d : Nat) (K : Nat → Prop) : bnd none d K = K d := same rfl
theorem bnd_some (k : IntKind) (n : Int) (d : Nat) (K : Nat → Prop) : bnd (some (.i k n)) d K = (0 ≤ n ∧ K n.toNat) := same rfl
theorem fillP_nil (z : List AV) (K : List AV → Prop) : fillP T z [] K = K z := same rfl
theorem fillP_cons (z : List AV) (o n : Nat) (x : X) (r : List (Nat × Nat × X)) (K : List AV → Prop) : fillP T z ((o, n, x) :: r) K = (((ev T x).data = true ∧ (ev T x).cl.length = n ∧ o + n ≤ z.length) ∧ fillP T (spl z o (ev T x).cl) r K) := same rfl
theorem toPs_nil : toPs T [] = some [] := same rfl
theorem toPs_cons (x : X) (l : List X) : toPs T (x :: l) = (toP (ev T x)).bind fun y => (toPs T l).map fun r => y :: r := same rfl
theorem toP_p (n o : Nat) : toP (.p n o) = some (n, o) := same rfl
theorem pAV_nil : pAV [] = [] := same rfl
theorem pAV_cons (n o : Nat) (l : List (Nat × Nat)) : pAV ((n, o) :: l) = .p n o :: pAV l := same rfl
theorem data_b (x : Bool) : AV.data (.b x) = true := same rfl
theorem data_i (k : IntKind) (x : Int) : AV.data (.i k x) = true := same rfl
theorem data_s (x : ByteArray) : AV.data (.s x) = true := same rfl
theorem data_p (n o : Nat) : AV.data (.p n o) = true := same rfl
theorem data_pn : AV.data .pn = true := same rfl
theorem data_sl (n o l c : Nat) : AV.data (.sl n o l c) = true := same rfl
theorem data_sn : AV.data .sn = true := same rfl
theorem data_fn (f : Nat) (a c : List (Nat × Nat)) : AV.data (.fn f a c) = true := same rfl
theorem data_fnil : AV.data .fnil = true := same rfl
theorem data_mp (n : Nat) : AV.data (.mp n) = true := same rfl
theorem data_agg (l : List AV) : AV.data (.agg l) = true := same rfl
theorem cl_b (x : Bool) : AV.cl (.b x) = [.b x] := same rfl
theorem cl_i (k : IntKind) (x : Int) : AV.cl (.i k x) = [.i k x] := same rfl
theorem cl_s (x : ByteArray) : AV.cl (.s x) = [.s x] := same rfl
theorem cl_p (n o : Nat) : AV.cl (.p n o) = [.p n o] := same rfl
theorem cl_pn : AV.cl .pn = [.pn] := same rfl
theorem cl_sl (n o l c : Nat) : AV.cl (.sl n o l c) = [.sl n o l c] := same rfl
theorem cl_sn : AV.cl .sn = [.sn] := same rfl
theorem cl_fn (f : Nat) (a c : List (Nat × Nat)) : AV.cl (.fn f a c) = [.fn f a c] := same rfl
theorem cl_agg (l : List AV) : AV.cl (.agg l) = l := same rfl
theorem spl_nil (z : List AV) (o : Nat) : spl z o [] = z := same rfl
theorem spl_zero (a : AV) (z : List AV) (x : AV) (r : List AV) : spl (a :: z) 0 (x :: r) = x :: spl z 0 r := by
  have key : ∀ (r : List AV) (y : AV) (z : List AV) (n : Nat), spl (y :: z) (n + 1) r = y :: spl z n r := by
    intro r
    induction r with
    | nil => intro _ _ _; rfl
    | cons q r ih => intro y z n; simp only [spl, List.set_cons_succ]; exact ih ..
  simp only [spl, List.set_cons_zero]; exact key ..
theorem spl_succ (a : AV) (z : List AV) (n : Nat) (r : List AV) : spl (a :: z) (n + 1) r = a :: spl z n r := by
  induction r generalizing z n with
  | nil => rfl
  | cons q r ih => simp only [spl, List.set_cons_succ]; exact ih ..
theorem win_zero (l : List AV) (o : Nat) : win l o 0 = [] := by simp [win]
theorem win_take (a : AV) (l : List AV) (n : Nat) : win (a :: l) 0 (n + 1) = a :: win l 0 n := by simp [win]
theorem win_drop (a : AV) (l : List AV) (o n : Nat) : win (a :: l) (o + 1) n = win l o n := by simp [win]
theorem rep_zero (z : List AV) : rep 0 z = [] := same rfl
theorem rep_succ (n : Nat) (z : List AV) : rep (n + 1) z = z ++ rep n z := same rfl
section
variable {k : IntKind} {x y : Int} {K : AV → Prop}
theorem ibin_add : ibin .add k x y K = (fits k (x + y) ∧ K (.i k (x + y))) := same rfl
theorem ibin_sub : ibin .sub k x y K = (fits k (x - y) ∧ K (.i k (x - y))) := same rfl
theorem ibin_mul : ibin .mul k x y K = (fits k (x * y) ∧ K (.i k (x * y))) := same rfl
theorem ibin_quo : ibin .quo k x y K = (y ≠ 0 ∧ fits k (x.tdiv y) ∧ K (.i k (x.tdiv y))) := same rfl
theorem ibin_rem : ibin .rem k x y K = (y ≠ 0 ∧ K (.i k (x.tmod y))) := same rfl
theorem ibin_eql : ibin .eql k x y K = K (.b (decide (x = y))) := same rfl
theorem ibin_neq : ibin .neq k x y K = K (.b (decide (x ≠ y))) := same rfl
theorem ibin_lss : ibin .lss k x y K = K (.b (decide (x < y))) := same rfl
theorem ibin_leq : ibin .leq k x y K = K (.b (decide (x ≤ y))) := same rfl
theorem ibin_gtr : ibin .gtr k x y K = K (.b (decide (y < x))) := same rfl
theorem ibin_geq : ibin .geq k x y K = K (.b (decide (y ≤ x))) := same rfl
theorem ibin_xor : ibin .xor k x y K = ((k = .i64 ∧ 0 ≤ x ∧ 0 ≤ y ∧ x < 4611686018427387904 ∧ y < 4611686018427387904) ∧ K (.i k ((x.toNat ^^^ y.toNat : Nat) : Int))) := same rfl
theorem fits_i64 : fits .i64 x = (-9223372036854775808 ≤ x ∧ x ≤ 9223372036854775807) := same rfl
theorem fits_u8 : fits .u8 x = (0 ≤ x ∧ x ≤ 255) := same rfl
theorem fits_u64 : fits .u64 x = (0 ≤ x ∧ x ≤ 18446744073709551615) := same rfl
theorem fits_u32 : fits .u32 x = (0 ≤ x ∧ x ≤ 4294967295) := same rfl
theorem ibin_and : ibin .and k x y K = ((k = .u64 ∧ 0 ≤ x ∧ x ≤ 18446744073709551615 ∧ y = 4294967295) ∧ K (.i k (x % 4294967296))) := same rfl
end
theorem rvals_nil (K : List AV → Prop) : rvals s [] K = K [] := same rfl
theorem rvals_t (n : Nat) (r : List RV) (K : List AV → Prop) : rvals ⟨T, σ⟩ (.t n :: r) K = rvals ⟨T, σ⟩ r fun l => K (look T n :: l) := same rfl
theorem rvals_cn (n : Nat) (r : List RV) (K : List AV → Prop) : rvals ⟨T, σ⟩ (.c n none :: r) K = onP (look T n) fun m o => onC σ[m]? fun cs => o < cs.length ∧ rvals ⟨T, σ⟩ r fun l => K (rd cs o :: l) := by
  simp only [rvals, onP]; generalize look T n = a; cases a <;> first | rfl | exact onC_get _
theorem rvals_cs (n k : Nat) (r : List RV) (K : List AV → Prop) : rvals ⟨T, σ⟩ (.c n (some k) :: r) K = onP (look T n) fun m o => onC σ[m]? fun cs => o + k ≤ cs.length ∧ rvals ⟨T, σ⟩ r fun l => K (.agg (win cs o k) :: l) := by
  simp only [rvals, onP]; generalize look T n = a; cases a <;> first | rfl | exact onC_get _
theorem oneOf_one (v : AV) (K : AV → Prop) : oneOf [v] K = K v := same rfl
theorem oneOf_nil (K : AV → Prop) : oneOf [] K = (true = true ∧ K (.tup [])) := same rfl
theorem oneOf_two (v u : AV) (l : List AV) (K : AV → Prop) : oneOf (v :: u :: l) K = ((v :: u :: l).all AV.data = true ∧ K (.tup (v :: u :: l))) := same rfl
theorem retP_normal (rs : List RV) : retP L0 rs K .normal ⟨T, σ⟩ = rvals ⟨T, σ⟩ rs fun l => oneOf l fun v => Fin L0 σ v K := same rfl
theorem retP_ret (rs : List RV) : retP L0 rs K .ret ⟨T, σ⟩ = rvals ⟨T, σ⟩ rs fun l => oneOf l fun v => Fin L0 σ v K := same rfl

/-- A call of a drawn part: it leaves the heap as it is, and its answer is known. -/
def onCall (P : Program) (g : FuncId) (args : List AV) (σ : List AB) (K : AV → Prop) : Prop := ∃ v, CallWp P g args σ (fun x σ' => x = v ∧ σ' = σ) ∧ K v
theorem onCall.by {P : Program} {g : FuncId} {args : List AV} {σ : List AB} {K : AV → Prop} {v : AV} (h : CallWp P g args σ (fun x σ' => x = v ∧ σ' = σ)) (hk : K v) : onCall P g args σ K := ⟨v, h, hk⟩
@[congr] theorem onCall_congr {P : Program} {f : FuncId} {args args' : List AV} {σ σ' : List AB} {K : AV → Prop} (h1 : args = args') (h2 : σ = σ') : onCall P f args σ K = onCall P f args' σ' K := by rw [h1, h2]
def kP (K : AV → Prop) : AV → List AB → Prop := fun v _ => K v
section
variable {K : AV → Prop}
theorem kP_app (v : AV) (σ : List AB) : kP K v σ = K v := same rfl
theorem wpP_call (f : X) (args : List X) : wpP P (.call f args) ⟨T, σ⟩ K = onFn (ev T f) fun g a c => (args.map (ev T)).all AV.data = true ∧ onCall P g (pAV a ++ args.map (ev T) ++ pAV c) σ K := same rfl
theorem wpP_mv (x : X) : wpP P (.mv x) ⟨T, σ⟩ K = wpO P (.mv x) ⟨T, σ⟩ (kP K) := by simp [wpP, pureO]; rfl
theorem wpP_pick (c a b : X) : wpP P (.pick c a b) ⟨T, σ⟩ K = wpO P (.pick c a b) ⟨T, σ⟩ (kP K) := by simp [wpP, pureO]; rfl
theorem wpP_not (x : X) : wpP P (.not x) ⟨T, σ⟩ K = wpO P (.not x) ⟨T, σ⟩ (kP K) := by simp [wpP, pureO]; rfl
theorem wpP_neg (x : X) : wpP P (.neg x) ⟨T, σ⟩ K = wpO P (.neg x) ⟨T, σ⟩ (kP K) := by simp [wpP, pureO]; rfl
theorem wpP_ld (x : X) : wpP P (.ld x) ⟨T, σ⟩ K = wpO P (.ld x) ⟨T, σ⟩ (kP K) := by simp [wpP, pureO]; rfl
theorem wpP_nilc (x : X) : wpP P (.nilc x) ⟨T, σ⟩ K = wpO P (.nilc x) ⟨T, σ⟩ (kP K) := by simp [wpP, pureO]; rfl
theorem wpP_len (x : X) : wpP P (.len x) ⟨T, σ⟩ K = wpO P (.len x) ⟨T, σ⟩ (kP K) := by simp [wpP, pureO]; rfl
theorem wpP_slen (x : X) : wpP P (.slen x) ⟨T, σ⟩ K = wpO P (.slen x) ⟨T, σ⟩ (kP K) := by simp [wpP, pureO]; rfl
theorem wpP_mn (x y : X) : wpP P (.mn x y) ⟨T, σ⟩ K = wpO P (.mn x y) ⟨T, σ⟩ (kP K) := by simp [wpP, pureO]; rfl
theorem wpP_mx (x y : X) : wpP P (.mx x y) ⟨T, σ⟩ K = wpO P (.mx x y) ⟨T, σ⟩ (kP K) := by simp [wpP, pureO]; rfl
theorem wpP_bin (op : BinOp) (x y : X) : wpP P (.bin op x y) ⟨T, σ⟩ K = wpO P (.bin op x y) ⟨T, σ⟩ (kP K) := by simp [wpP, pureO]; rfl
theorem wpP_beq (neg : Bool) (x y : X) : wpP P (.beq neg x y) ⟨T, σ⟩ K = wpO P (.beq neg x y) ⟨T, σ⟩ (kP K) := by simp [wpP, pureO]; rfl
theorem wpP_aeq (neg : Bool) (q : List Bool) (x y : X) : wpP P (.aeq neg q x y) ⟨T, σ⟩ K = wpO P (.aeq neg q x y) ⟨T, σ⟩ (kP K) := by simp [wpP, pureO]; rfl
theorem wpP_ldn (n : Nat) (x : X) : wpP P (.ldn n x) ⟨T, σ⟩ K = wpO P (.ldn n x) ⟨T, σ⟩ (kP K) := by simp [wpP, pureO]; rfl
theorem wpP_fa (n : Nat) (x : X) : wpP P (.fa n x) ⟨T, σ⟩ K = wpO P (.fa n x) ⟨T, σ⟩ (kP K) := by simp [wpP, pureO]; rfl
theorem wpP_ia (n : Nat) (x i : X) : wpP P (.ia n x i) ⟨T, σ⟩ K = wpO P (.ia n x i) ⟨T, σ⟩ (kP K) := by simp [wpP, pureO]; rfl
theorem wpP_fld (n : Nat) (x : X) : wpP P (.fld n x) ⟨T, σ⟩ K = wpO P (.fld n x) ⟨T, σ⟩ (kP K) := by simp [wpP, pureO]; rfl
theorem wpP_build (z : List AV) (p : List (Nat × Nat × X)) : wpP P (.build z p) ⟨T, σ⟩ K = wpO P (.build z p) ⟨T, σ⟩ (kP K) := by simp [wpP, pureO]; rfl
theorem wpP_slc (n : Nat) (x : X) (lo hi mx : Option X) : wpP P (.slc n x lo hi mx) ⟨T, σ⟩ K = wpO P (.slc n x lo hi mx) ⟨T, σ⟩ (kP K) := by simp [wpP, pureO]; rfl
theorem wpP_mkf (n : Nat) (a c : List X) : wpP P (.mkf n a c) ⟨T, σ⟩ K = wpO P (.mkf n a c) ⟨T, σ⟩ (kP K) := by simp [wpP, pureO]; rfl
theorem wpP_ext (n : Nat) (x : X) : wpP P (.ext n x) ⟨T, σ⟩ K = wpO P (.ext n x) ⟨T, σ⟩ (kP K) := by simp [wpP, pureO]; rfl
theorem wpP_conv (k : IntKind) (x : X) : wpP P (.conv k x) ⟨T, σ⟩ K = wpO P (.conv k x) ⟨T, σ⟩ (kP K) := by simp [wpP, pureO]; rfl
end
end

/-! ### the simplifier's set -/
attribute [go_sem] fits_u64 fits_u32
attribute [go_sem ↓] ibin_and ibin_xor onB_b onG_b onG_u onI_i onS_s onP_p onAg_agg onTu_tup onFn_fn onC_ro
attribute [go_sem ↓] onMp_mp onJ_i onMb_mb
attribute [go_sem] wpO_die wpO_shr wpO_copy wpO_mkm wpO_lk wpO_mup Option.isSome_none Option.isSome_some Option.getD_none Option.getD_some
attribute [go_sem ↓] onC_rw onW_rw onO_some onSl_sl onSl_sn onNc_p onNc_fn bnd_none
attribute [go_sem ↓] bnd_some fillP_nil fillP_cons ibin_add ibin_sub ibin_mul ibin_quo ibin_rem
attribute [go_sem ↓] ibin_eql ibin_neq ibin_lss ibin_leq ibin_gtr ibin_geq rvals_nil rvals_t
attribute [go_sem ↓] rvals_cn rvals_cs oneOf_one oneOf_nil oneOf_two kP_app bc_true bc_false
attribute [go_sem ←] decide_not
attribute [go_sem] kJ_ret kJ_exit
attribute [go_sem] kF_some kF_none kN_app kH_some kH_none kE_app wpF_nil wpF_none wpF_some wpPlan_fin wpPlan_alt wpPlan_one wpPlan_guard stabs_nil stabs_ld stabs_ldn wpC_plan
attribute [go_sem] kI_some kI_none kQ_some kQ_none kS_normal kS_ret kS_exit kB_normal
attribute [go_sem] kB_ret kB_exit kD_app wpC_skip wpC_seq wpC_cond wpC_block wpC_exit
attribute [go_sem] wpC_ret wpC_ops wpC_draw wpI_nil wpI_none wpI_some wpQ_zero wpQ_none
attribute [go_sem] wpQ_some look_cons look_nil ev_t ev_k rd_zero rd_succ wpO_mv
attribute [go_sem] wpO_pick wpO_bin wpO_beq wpO_aeq wpO_not wpO_neg wpO_ld wpO_ldn
attribute [go_sem] wpO_st wpO_fa wpO_ia wpO_fld wpO_box wpO_alloc wpO_build wpO_bsl
attribute [go_sem] wpO_msl wpO_len wpO_slen wpO_mn wpO_mx wpO_call wpO_mkf wpO_ext
attribute [go_sem] wpO_conv wpO_nilc wpO_slc_none wpO_slc_some wpO_app wpO_appf toPs_nil toPs_cons
attribute [go_sem] toP_p pAV_nil pAV_cons data_b data_i data_s data_p data_pn
attribute [go_sem] data_sl data_sn data_fn data_fnil data_mp data_agg cl_b cl_i
attribute [go_sem] cl_s cl_p cl_pn cl_sl cl_sn cl_fn cl_agg spl_nil
attribute [go_sem] spl_zero spl_succ win_zero win_take win_drop rep_zero rep_succ fits_i64
attribute [go_sem] fits_u8 retP_normal retP_ret wpP_call wpP_mv wpP_pick wpP_not wpP_neg
attribute [go_sem] wpP_ld wpP_nilc wpP_len wpP_slen wpP_mn wpP_mx wpP_bin wpP_beq
attribute [go_sem] wpP_aeq wpP_ldn wpP_fa wpP_ia wpP_fld wpP_build wpP_slc wpP_mkf
attribute [go_sem] wpP_ext wpP_conv initT bc_not bc_dec eqT eqF List.length_nil
attribute [go_sem] List.set_cons_zero List.set_cons_succ List.length_cons List.length_append List.map_cons List.map_nil List.nil_append List.cons_append
attribute [go_sem] List.append_nil List.all_cons List.all_nil List.getElem?_cons_zero List.getElem?_cons_succ Nat.zero_add Nat.add_zero true_and
attribute [go_sem] and_true and_self true_implies implies_true Bool.and_true Bool.and_false Bool.not_true Bool.not_false
attribute [go_sem] Bool.and_self decide_true decide_false Option.map_some Option.map_none Option.bind_some Option.isSome_some Option.isSome_none
attribute [go_sem] Int.toNat_natCast Int.ofNat_lt Int.ofNat_le ge_iff_le gt_iff_lt ne_eq not_true_eq_false Nat.mul_one
attribute [go_sem] Int.natCast_nonneg Int.ofNat_inj Decidable.not_not not_false_eq_true Bool.false_eq_true
end Go.Abs
