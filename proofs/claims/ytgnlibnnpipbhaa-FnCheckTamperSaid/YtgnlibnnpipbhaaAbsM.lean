/- Words for walks: a state seen as another whose blocks are some of its own; calls that only read; rows handed back. -/
import Derived.Test.YtgnlibnnpipbhaaAbsL
namespace Go.Abs
set_option linter.unusedVariables false
set_option linter.unusedSimpArgs false

def pickB (σ : List AB) (ν : List Nat) : List AB := ν.map fun m => σ.getD m .dead

def ltAll (N : Nat) (ν : List Nat) : Bool := ν.all fun m => Nat.blt m N
def nodup : List Nat → Bool
  | [] => true
  | a :: l => !(l.contains a) && nodup l

theorem nodup_at : ∀ {ν : List Nat}, nodup ν = true → ∀ n m : Nat, n < ν.length → m < ν.length → n ≠ m → ν.getD n 0 ≠ ν.getD m 0
  | [], _, n, m, h, _, _ => by simp at h
  | a :: l, hd, n, m, hn, hm, hne => by
    simp only [nodup, Bool.and_eq_true, Bool.not_eq_true', List.contains_eq_mem, decide_eq_false_iff_not] at hd
    cases n with
    | zero =>
      cases m with
      | zero => exact absurd rfl hne
      | succ m =>
        simp only [List.getD_cons_zero, List.getD_cons_succ]
        intro e
        apply hd.1
        rw [e, List.getD_eq_getElem?_getD, List.getElem?_eq_getElem (by simpa using hm)]
        exact List.getElem_mem _
    | succ n =>
      cases m with
      | zero =>
        simp only [List.getD_cons_zero, List.getD_cons_succ]
        intro e
        apply hd.1
        rw [← e, List.getD_eq_getElem?_getD, List.getElem?_eq_getElem (by simpa using hn)]
        exact List.getElem_mem _
      | succ m =>
        simp only [List.getD_cons_succ]
        exact nodup_at hd.2 n m (by simpa using hn) (by simpa using hm) (by omega)

theorem pickB_at {σ : List AB} {ν : List Nat} {n : Nat} {B : AB} (h : (pickB σ ν)[n]? = some B) : n < ν.length ∧ B = σ.getD (ν.getD n 0) .dead := by
  unfold pickB at h
  rw [List.getElem?_map] at h
  cases hn : ν[n]? with
  | none => rw [hn] at h; cases h
  | some m =>
    rw [hn] at h
    simp only [Option.map_some, Option.some.injEq] at h
    refine ⟨(List.getElem?_eq_some_iff.1 hn).1, ?_⟩
    rw [List.getD_eq_getElem?_getD (l := ν), hn]
    exact h.symm

/-- A cell that reads the same under other names: those it names keep theirs. -/
def keepC (ν : List Nat) (N : Nat) : AV → Bool
  | .p n _ => Nat.blt n N && Nat.beq (ν.getD n 0) n
  | .sl n _ _ _ => Nat.blt n N && Nat.beq (ν.getD n 0) n
  | .mp n => Nat.blt n N && Nat.beq (ν.getD n 0) n
  | x => flat x

def keepB (ν : List Nat) (N : Nat) : AB → Bool
  | .dead => true
  | .ro cs => cs.all (keepC ν N)
  | .rw _ cs _ => cs.all (keepC ν N)
  | .mb .. => true

theorem keepC_flat {ν : List Nat} {N : Nat} {x : AV} (h : flat x = true) : keepC ν N x = true := by cases x <;> first | exact h | cases h
theorem keep_flat {ν : List Nat} {N : Nat} {l : List AV} (h : l.all flat = true) : l.all (keepC ν N) = true := by
  rw [List.all_eq_true] at h ⊢; exact fun x hx => keepC_flat (h x hx)
theorem Enc.row_keep {α : Type} (E : Enc α) (L : List α) (ν : List Nat) (N : Nat) : (E.row L).all (keepC ν N) = true := keep_flat (E.row_flat L)

theorem keepC_ren {ν : List Nat} {N : Nat} {x : AV} (h : keepC ν N x = true) : renC (nat2 ν) x = x ∧ below N x = true := by
  cases x <;> simp only [keepC, Bool.and_eq_true, Nat.blt_eq] at h <;> first
    | exact ⟨rfl, rfl⟩
    | (cases h; done)
    | exact ⟨by simp only [renC, nat2, Nat.eq_of_beq_eq_true h.2, Nat.zero_add], by simp only [below, decide_eq_true_eq]; exact h.1⟩

theorem keep_map {ν : List Nat} {N : Nat} {l : List AV} (h : l.all (keepC ν N) = true) : l.map (renC (nat2 ν)) = l := by
  induction l with
  | nil => rfl
  | cons x l ih => simp only [List.all_cons, Bool.and_eq_true] at h; rw [List.map_cons, (keepC_ren h.1).1, ih h.2]
theorem keep_below {ν : List Nat} {N : Nat} {l : List AV} (h : l.all (keepC ν N) = true) : l.all (below N) = true := by
  rw [List.all_eq_true] at h ⊢; exact fun x hx => (keepC_ren (h x hx)).2

theorem keepB_fit {ν : List Nat} {σ : List AB} {N m : Nat} {B : AB} (h0 : m < σ.length) (he : B = σ.getD m .dead) (hf : keepB ν N B = true) : FitW (nat2 ν) N σ (m, 0) B := by
  have hg : σ[m]? = some B := by rw [he, List.getD_eq_getElem?_getD, List.getElem?_eq_getElem h0]; rfl
  cases B with
  | dead => trivial
  | ro cs =>
    refine ⟨keep_below hf, .inr ⟨cs, by simp [cellsOf, hg], by simp, ?_⟩⟩
    rw [keep_map hf]; simp [win]
  | rw ty cs r => exact .inr ⟨keep_below hf, rfl, by rw [keep_map hf]; exact hg⟩
  | mb P k e n f => exact ⟨rfl, hg⟩

theorem pick_fits {σ σ1 : List AB} (ν : List Nat) (hσ : σ1 = pickB σ ν) (hlt : ltAll σ.length ν = true) (hn : nodup ν = true) (hf : σ1.all (keepB ν σ1.length) = true) : FitsW (nat2 ν) σ σ1 := by
  subst hσ
  refine ⟨fun n B h => ?_, ?_⟩
  · obtain ⟨h1, h2⟩ := pickB_at h
    refine keepB_fit ?_ h2 ?_
    · unfold ltAll at hlt
      rw [List.all_eq_true] at hlt
      have : ν.getD n 0 ∈ ν := by rw [List.getD_eq_getElem?_getD, List.getElem?_eq_getElem h1]; exact List.getElem_mem _
      exact by simpa using hlt _ this
    · rw [List.all_eq_true] at hf
      exact hf B (List.mem_of_getElem? h)
  · intro n B m B' h _ h' _ hne
    exact nodup_at hn m n (pickB_at h').1 (pickB_at h).1 hne

/-- A state seen as another that keeps some of its blocks, under other names. -/
theorem Wk.pick {L0 nt : Nat} {T T1 : List (Nat × AV)} {σ σ1 : List AB} (ν : List Nat) (hT : seesT (nat2 ν) T σ1.length T1 := by simp [seesT, belowT, below1, below, sees, ren, ren1, renC, rnp, nat2, look_cons, St.put]) (hσ : σ1 = pickB σ ν := by rfl) (hlt : ltAll σ.length ν = true := by rfl) (hn : nodup ν = true := by rfl) (hL : L0 ≤ ν.length := by simp)
    (hid : idL L0 ν := by simp [idL]) (hf : σ1.all (keepB ν σ1.length) = true := by simp [keepB, keepC, flat, Enc.row_keep]) : Wk L0 nt ⟨T, σ⟩ ⟨T1, σ1⟩ :=
  Wk.of ν (by rw [hσ, pickB, List.length_map]; exact hL) (idL_at hid) ⟨seesT_at hT, pick_fits ν hσ hlt hn hf⟩

theorem Fin.pick {L0 : Nat} {σ : List AB} {v : AV} {K : AV → List AB → Prop} (ν : List Nat) (v1 : AV) (σ1 : List AB) (hk : K v1 σ1) (hσ : σ1 = pickB σ ν := by rfl) (hlt : ltAll σ.length ν = true := by rfl) (hn : nodup ν = true := by rfl) (hL : L0 ≤ ν.length := by simp)
    (hid : idL L0 ν := by simp [idL]) (hf : σ1.all (keepB ν σ1.length) = true := by simp [keepB, keepC, flat, Enc.row_keep]) (hv : sees (nat2 ν) v v1 := by simp [sees, ren, ren1, renC, rnp, nat2]) (hb : belowT σ1.length v1 = true := by simp [belowT, below1, below]) : Fin L0 σ v K :=
  Fin.of ν (by rw [hσ, pickB, List.length_map]; exact hL) (idL_at hid) hv hb (pick_fits ν hσ hlt hn hf) hk

def lowC (N : Nat) : AV → Bool
  | .p n _ => Nat.blt n N
  | .sl n _ _ _ => Nat.blt n N
  | .mp n => Nat.blt n N
  | x => flat x
def lowB (N : Nat) : AB → Bool
  | .dead => true
  | .ro cs => cs.all (lowC N)
  | .rw _ cs _ => cs.all (lowC N)
  | .mb .. => true
theorem lowC_flat {N : Nat} {x : AV} (h : flat x = true) : lowC N x = true := by cases x <;> first | exact h | cases h
theorem low_flat {N : Nat} {l : List AV} (h : l.all flat = true) : l.all (lowC N) = true := by
  rw [List.all_eq_true] at h ⊢; exact fun x hx => lowC_flat (h x hx)
theorem Enc.row_low {α : Type} (E : Enc α) (L : List α) (N : Nat) : (E.row L).all (lowC N) = true := low_flat (E.row_flat L)
theorem lowC_keep {N : Nat} {x : AV} (h : lowC N x = true) : keepC (List.range N) N x = true := by
  have hg : ∀ n, Nat.blt n N = true → Nat.beq ((List.range N).getD n 0) n = true := by
    intro n hn
    have hn' : n < N := by simpa using hn
    simp [List.getD_eq_getElem?_getD, hn']
  cases x <;> simp only [lowC, keepC, Bool.and_eq_true] at h ⊢ <;> first | exact h | exact ⟨h, hg _ h⟩
theorem lowB_keep {N : Nat} {B : AB} (h : lowB N B = true) : keepB (List.range N) N B = true := by
  cases B <;> simp only [lowB, keepB, List.all_eq_true] at h ⊢
  all_goals exact fun x hx => lowC_keep (h x hx)

/-- The blocks that the function made are forgotten. -/
theorem Fin.same {L0 : Nat} {σ σ0 τ : List AB} {v r : AV} (he : v = r) (hσ : σ = σ0 ++ τ := by rfl) (hL : L0 = σ0.length := by rfl) (hf : σ0.all (lowB σ0.length) = true := by simp [lowB, lowC, flat, Enc.row_low]) (hv : flat1 v = true := by rfl) : Fin L0 σ v (fun x σ' => x = r ∧ σ' = σ0) := by
  subst hσ
  have hg : ∀ n, n < σ0.length → (List.range σ0.length).getD n 0 = n := fun n hn => by simp [List.getD_eq_getElem?_getD, hn]
  refine Fin.of (List.range σ0.length) (Nat.le_of_eq hL) (fun n hn => hg n (by omega)) (.inr (.inl (flat1_renT hv).symm)) ?_ ?_ ⟨he, rfl⟩
  · cases v
    case tup l => cases hv
    all_goals exact flat1_below (N := σ0.length) hv
  · refine ⟨fun n B h => ?_, ?_⟩
    · have hlt := (List.getElem?_eq_some_iff.1 h).1
      have e : nat2 (List.range σ0.length) n = (n, 0) := by rw [nat2, hg n hlt]
      rw [e]
      refine keepB_fit (by simp; omega) ?_ ?_
      · rw [List.getD_eq_getElem?_getD, List.getElem?_append_left hlt, h]; rfl
      · rw [List.all_eq_true] at hf
        exact lowB_keep (hf B (List.mem_of_getElem? h))
    · intro n B m B' h _ h' _ hne
      simp only [nat2]
      rw [hg n (List.getElem?_eq_some_iff.1 h).1, hg m (List.getElem?_eq_some_iff.1 h').1]
      exact hne

/-! ### calls that read rows -/
/-- The value is a slice of len elements whose cells are the row. -/
def RdR (σ : List AB) (v : AV) (len : Nat) (row : List AV) : Prop :=
  row.all flat = true ∧ ((∃ n o cap cs, v = .sl n o len cap ∧ n < σ.length ∧ cellsOf σ n = some cs ∧ o + row.length ≤ cs.length ∧ win cs o row.length = row) ∨ (v = .sn ∧ len = 0 ∧ row = [] ∧ 0 < σ.length))

theorem Rd.r {α : Type} {E : Enc α} {σ : List AB} {v : AV} {L : List α} (h : Rd E σ v L) : RdR σ v L.length (E.row L) := by
  refine ⟨E.row_flat L, ?_⟩
  rcases h with ⟨n, o, cap, cs, rfl, hn, hc, hle, hw⟩ | ⟨rfl, rfl, h0⟩
  · exact .inl ⟨n, o, cap, cs, rfl, hn, hc, by rw [E.row_length]; exact hle, by rw [E.row_length]; exact hw⟩
  · exact .inr ⟨rfl, rfl, rfl, h0⟩

structure Sl where
  v : AV
  len : Nat
  row : List AV

def Sl.ok (σ : List AB) (s : Sl) : Prop := RdR σ s.v s.len s.row

def slBl (S : List Sl) : List AB := S.map fun s => .ro s.row

def slArgs (ν : Nat → Nat × Nat) (caps : Nat → Nat) (k : Nat) : List Sl → Prop
  | [] => True
  | s :: r => sees1 ν s.v (.sl k 0 s.len (caps k)) ∧ slArgs ν caps (k + 1) r

theorem rds_fit {σ : List AB} : ∀ {S : List Sl}, (∀ s ∈ S, s.ok σ) → ∀ k, ∃ (m : Nat → Nat × Nat) (caps : Nat → Nat),
    (∀ i, i < S.length → (m (k + i)).1 < σ.length) ∧ (∀ ν, (∀ i, i < S.length → ν (k + i) = m (k + i)) → slArgs ν caps k S) ∧ ∀ i s, S[i]? = some s → ∀ ν N0, FitB ν N0 σ (m (k + i)) (.ro s.row)
  | [], _, k => ⟨fun _ => (0, 0), fun _ => 0, fun i h => by simp at h, fun _ _ => trivial, fun i s h => by simp at h⟩
  | s :: S, h, k => by
    obtain ⟨m, caps, h1, h2, h3⟩ := rds_fit (S := S) (fun s hs => h s (List.mem_cons_of_mem _ hs)) (k + 1)
    have hs := h s (List.mem_cons_self ..)
    have key : ∃ (a : Nat × Nat) (cap : Nat), a.1 < σ.length ∧ (∀ ν : Nat → Nat × Nat, ν k = a → sees1 ν s.v (.sl k 0 s.len cap)) ∧ ∀ ν N0, FitB ν N0 σ a (.ro s.row) := by
      obtain ⟨hf, ⟨n, o, cap, cs, hv, hn, hc, hle, hw⟩ | ⟨hv, hl, hr, h0⟩⟩ := hs
      · refine ⟨(n, o), cap, hn, fun ν hj => .inl (by simp [ren1, renC, hj, hv]), fun ν N0 => ⟨all_flat hf, .inr ⟨cs, hc, hle, ?_⟩⟩⟩
        rw [map_flat hf, hw]
      · rw [hl, hr]
        exact ⟨(0, 0), 0, h0, fun ν hj => .inr ⟨hv, k, 0, rfl⟩, fun ν N0 => ⟨rfl, .inl rfl⟩⟩
    obtain ⟨a, cap, ha1, ha2, ha3⟩ := key
    refine ⟨fun i => if i = k then a else m i, fun i => if i = k then cap else caps i, ?_, ?_, ?_⟩
    · intro i hi
      cases i with
      | zero => simpa using ha1
      | succ i =>
        have := h1 i (by simpa using hi)
        dsimp only
        rw [if_neg (by omega)]
        rwa [show k + (i + 1) = k + 1 + i from by omega]
    · intro ν hν
      refine ⟨?_, ?_⟩
      · dsimp only
        rw [if_pos rfl]
        exact ha2 ν (by have := hν 0 (by simp); simpa using this)
      · have hgen : ∀ (R : List Sl) (j : Nat), k < j → slArgs ν caps j R → slArgs ν (fun i => if i = k then cap else caps i) j R := by
          intro R
          induction R with
          | nil => intro _ _ _; trivial
          | cons r R ih => intro j hj hr; exact ⟨by dsimp only; rw [if_neg (by omega)]; exact hr.1, ih (j + 1) (by omega) hr.2⟩
        refine hgen S (k + 1) (by omega) (h2 ν fun i hi => ?_)
        have := hν (i + 1) (by simpa using hi)
        dsimp only at this
        rw [if_neg (by omega)] at this
        rwa [show k + 1 + i = k + (i + 1) from by omega]
    · intro i s' hs' ν N0
      cases i with
      | zero => simp at hs'; subst hs'; simpa using ha3 ν N0
      | succ i =>
        have := h3 i s' (by simpa using hs') ν N0
        dsimp only
        rw [if_neg (by omega)]
        rwa [show k + (i + 1) = k + 1 + i from by omega]

section
variable {P : Program} {f : FuncId} {σ : List AB} {args : List AV} {K : AV → List AB → Prop}

theorem rds_all {S : List Sl} {ν m : Nat → Nat × Nat} (hm : ∀ i, i < S.length → ν i = m i) (h3 : ∀ i s, S[i]? = some s → ∀ ν N0, FitB ν N0 σ (m i) (.ro s.row)) : Fits ν σ (slBl S) := by
  refine ⟨fun n B h => ?_, ?_⟩
  · unfold slBl at h
    rw [List.getElem?_map] at h
    cases hs : S[n]? with
    | none => rw [hs] at h; cases h
    | some s =>
      rw [hs] at h
      simp only [Option.map_some, Option.some.injEq] at h
      subst h
      rw [hm n (List.getElem?_eq_some_iff.1 hs).1]
      exact h3 n s hs _ _
  · intro n B m' B' h hr
    unfold slBl at h
    rw [List.getElem?_map] at h
    cases hs : S[n]? with
    | none => rw [hs] at h; cases h
    | some s =>
      rw [hs] at h
      simp only [Option.map_some, Option.some.injEq] at h
      subst h
      cases hr

/-- A call that only reads rows and hands back a plain value. -/
theorem call_rds (S : List Sl) (hS : ∀ s ∈ S, s.ok σ) (args0 : (Nat → Nat) → List AV) {r : AV} (h : ∀ c, CallWp P f (args0 c) (slBl S) fun x σ' => x = r ∧ σ' = slBl S)
    (ha : ∀ ν c, slArgs ν c 0 S → seesL ν args (args0 c)) (hb : ∀ c, (args0 c).all (below1 S.length) = true) (hr : flat1 r = true) (hk : K r σ) : CallWp P f args σ K := by
  obtain ⟨m, c, h1, h2, h3⟩ := rds_fit hS 0
  simp only [Nat.zero_add] at h1 h2 h3
  refine call_same (ν := m) (K0 := fun x _ => x = r) (h c) (rds_all (fun _ _ => rfl) h3) ?_ ?_ (ha m c (h2 m fun _ _ => rfl)) ?_
  · intro n hn; exact h1 n (by simpa [slBl] using hn)
  · simpa [slBl] using hb c
  · rintro x rfl; rw [flat1_renT hr]; exact hk

theorem updL_ro (g ν : Nat → Nat × Nat) : ∀ (S : List Sl) (r' : List AB) (k : Nat) (σ : List AB), updL g ν k (slBl S) r' σ = σ
  | [], r', k, σ => by cases r' <;> rfl
  | s :: S, [], k, σ => rfl
  | s :: S, B' :: r', k, σ => by
    have := updL_ro g ν S r' (k + 1) σ
    simp only [slBl, List.map_cons] at this ⊢
    simpa [updL] using this

/-- A call that only reads rows and hands back a new row. -/
theorem call_new (S : List Sl) (hS : ∀ s ∈ S, s.ok σ) (args0 : (Nat → Nat) → List AV) {ty : TypeId} {len k : Nat} {row : List AV}
    (h : ∀ c, CallWp P f (args0 c) (slBl S) fun x σ' => ∃ cap, x = .sl S.length 0 len cap ∧ σ' = slBl S ++ [.rw ty row (cap * k)])
    (ha : ∀ ν c, slArgs ν c 0 S → seesL ν args (args0 c)) (hb : ∀ c, (args0 c).all (below1 S.length) = true) (hr : row.all flat = true) (hk : ∀ cap, K (.sl σ.length 0 len cap) (σ ++ [.rw ty row (cap * k)])) : CallWp P f args σ K := by
  obtain ⟨m, c, h1, h2, h3⟩ := rds_fit hS 0
  simp only [Nat.zero_add] at h1 h2 h3
  have hlen : (slBl S).length = S.length := by simp [slBl]
  refine call_frame (ν := m) (h c) (rds_all (fun _ _ => rfl) h3) ?_ ?_ (ha m c (h2 m fun _ _ => rfl)) ?_
  · intro n hn; exact h1 n (by simpa [slBl] using hn)
  · simpa [slBl] using hb c
  · rintro x σ' hl ⟨cap, rfl, rfl⟩
    refine ⟨?_, ?_⟩
    · intro n B hn hlt
      by_cases hn' : n < (slBl S).length
      · obtain ⟨B0, hB0, hrw⟩ := hlt hn'
        unfold slBl at hB0
        rw [List.getElem?_map] at hB0
        cases hs : S[n]? with
        | none => rw [hs] at hB0; cases hB0
        | some s => rw [hs] at hB0; simp only [Option.map_some, Option.some.injEq] at hB0; subst hB0; cases hrw
      · rw [List.getElem?_append_right (by omega)] at hn
        rcases hq : n - (slBl S).length with _ | q
        · rw [hq] at hn; simp at hn; subst hn; rfl
        · rw [hq] at hn; simp at hn
    · have e1 : plug m σ (slBl S) (slBl S ++ [.rw ty row (cap * k)]) = σ ++ [.rw ty row (cap * k)] := by
        rw [plug, updL_ro, List.drop_left']
        · simp only [List.map_cons, List.map_nil, renB, map_flat hr]
        · rfl
      have e2 : ren (Abs.out m (slBl S).length σ.length) (.sl S.length 0 len cap) = .sl σ.length 0 len cap := by
        simp [ren, ren1, renC, Abs.out, hlen]
      rw [e1, e2]
      exact hk cap
end

/-- A new row reads. -/
theorem Rd.fresh {α : Type} {E : Enc α} {σ τ : List AB} {ty : TypeId} {L : List α} {cap r : Nat} : Rd E (σ ++ .rw ty (E.row L) r :: τ) (.sl σ.length 0 L.length cap) L := by
  refine .inl ⟨σ.length, 0, cap, E.row L, rfl, by simp, by simp [cellsOf], by rw [E.row_length]; omega, ?_⟩
  rw [← E.row_length L]; simp [win]

theorem onC_of {σ : List AB} {n : Nat} {cs : List AV} (h : cellsOf σ n = some cs) (f : List AV → Prop) : onC σ[n]? f = f cs := by
  rw [← onC_get, h]

/-- The heap stays; some temporaries are forgotten. -/
theorem Wk.keep {L0 nt : Nat} {T T1 : List (Nat × AV)} {σ : List AB} (h : ∀ p ∈ T1, look T p.1 = p.2) : Wk L0 nt ⟨T, σ⟩ ⟨T1, σ⟩ := by
  intro F ρ a w hL hs
  refine ⟨ρ, fun _ _ => rfl, hL, hs.1, hs.2.1, hs.2.2.1, fun t => ?_⟩
  rcases look_mem (T := T1) (t := t) with ⟨p, hp, h1, h2⟩ | h2
  · have h3 := hs.2.2.2 t
    simp only at h3 ⊢
    rw [h2, ← h p hp, h1]
    exact h3
  · simp only [h2]; trivial

theorem rds1 {σ : List AB} {v : AV} {n : Nat} {r : List AV} (h : RdR σ v n r) : ∀ s ∈ [(⟨v, n, r⟩ : Sl)], s.ok σ := by
  intro s hs
  obtain rfl := List.mem_singleton.1 hs
  exact h
theorem rds_cons {σ : List AB} {v : AV} {n : Nat} {r : List AV} {S : List Sl} (h : RdR σ v n r) (hS : ∀ s ∈ S, s.ok σ) : ∀ s ∈ (⟨v, n, r⟩ : Sl) :: S, s.ok σ := by
  intro s hs
  rcases List.mem_cons.1 hs with rfl | hs
  · exact h
  · exact hS s hs

theorem bc_of {x : Bool} {A B : Prop} (h1 : x = true → A) (h2 : x = false → B) : bc x A B := ⟨h1, h2⟩

/-- An element of a row that lies in a block. -/
theorem win_at {α : Type} {E : Enc α} {cs : List AV} {o : Nat} {L : List α} (hle : o + L.length * E.k ≤ cs.length) (hw : win cs o (L.length * E.k) = E.row L) (k : Nat) (h : k < L.length) :
    o + k * E.k + E.k ≤ cs.length ∧ win cs (o + k * E.k) E.k = E.f L[k] := by
  have h1 : k * E.k + E.k ≤ L.length * E.k := by
    have := Nat.mul_le_mul_right E.k (show k + 1 ≤ L.length from h)
    rw [Nat.add_mul, Nat.one_mul] at this
    exact this
  refine ⟨by omega, ?_⟩
  rw [← E.win L k h, ← hw]
  simp only [win]
  rw [List.drop_take, List.take_take, List.drop_drop]
  congr 1
  omega

theorem rd_at {α : Type} {E : Enc α} {cs : List AV} {o : Nat} {L : List α} (hle : o + L.length * E.k ≤ cs.length) (hw : win cs o (L.length * E.k) = E.row L) (k : Nat) (h : k < L.length) (j : Nat) (hj : j < E.k) :
    o + k * E.k + j < cs.length ∧ rd cs (o + k * E.k + j) = rd (E.f L[k]) j := by
  obtain ⟨h1, h2⟩ := win_at hle hw k h
  refine ⟨by omega, ?_⟩
  rw [← h2]
  simp only [rd, win]
  rw [List.getElem?_take, if_pos hj, List.getElem?_drop]

/-- A slice over a whole block reads. -/
theorem Rd.own {α : Type} {E : Enc α} {σ : List AB} {n cap : Nat} {L : List α} (h : cellsOf σ n = some (E.row L)) : Rd E σ (.sl n 0 L.length cap) L := by
  refine .inl ⟨n, 0, cap, E.row L, rfl, ?_, h, by rw [E.row_length]; omega, ?_⟩
  · unfold cellsOf at h
    cases hn : σ[n]? with
    | none => rw [hn] at h; cases h
    | some B => exact (List.getElem?_eq_some_iff.1 hn).1
  · rw [← E.row_length L]; simp [win]

/-- A row of equal elements. -/
theorem Enc.rep {α : Type} (E : Enc α) (z : α) : ∀ n : Nat, Abs.rep n (E.f z) = E.row (List.replicate n z)
  | 0 => rfl
  | n + 1 => by rw [rep_succ, Enc.rep E z n, List.replicate_succ]; simp [Enc.row, encs]

theorem kJ_intro {L0 nt : Nat} {ι : Type} {Θ : ι → St} {J : ι → Prop} {Q : Exit → St → Prop} {s : St} (i : ι) (hJ : J i) (hW : Wk L0 nt s (Θ i)) : kJ L0 nt Θ J Q .normal s := ⟨i, hJ, hW⟩
end Go.Abs
