/- Calls of functions that draw from a reader: what the reader is, and what a call of such a function does to the caller's heap. -/
import Derived.Test.YtgnlibnnpipbhaaAbsM
namespace Go.Abs
set_option linter.unusedVariables false
set_option linter.unusedSimpArgs false

/-- Block n is a reader of the bytes B at place p. -/
structure Rdr (ty : TypeId) (σ : List AB) (n : Nat) (B : List Nat) (p : Int) (m o c : Nat) : Prop where
  blk : σ[n]? = some (.rw ty [.sl m o B.length c, .i .i64 p] 2)
  ne : m ≠ n
  win : ∃ cs, cellsOf σ m = some cs ∧ o + B.length ≤ cs.length ∧ Abs.win cs o B.length = encByte.row B

def Sl.okx (σ : List AB) (n : Nat) (s : Sl) : Prop :=
  s.row.all flat = true ∧ ((∃ q o cap cs, s.v = .sl q o s.len cap ∧ q ≠ n ∧ q < σ.length ∧ cellsOf σ q = some cs ∧ o + s.row.length ≤ cs.length ∧ win cs o s.row.length = s.row) ∨ (s.v = .sn ∧ s.len = 0 ∧ s.row = []))

theorem rds_fitx {σ : List AB} {n b0 : Nat} (hb0 : b0 ≠ n) (hb1 : b0 < σ.length) : ∀ {S : List Sl}, (∀ s ∈ S, s.okx σ n) → ∀ k, ∃ (m : Nat → Nat × Nat) (caps : Nat → Nat),
    (∀ i, i < S.length → (m (k + i)).1 < σ.length ∧ (m (k + i)).1 ≠ n) ∧ (∀ ν, (∀ i, i < S.length → ν (k + i) = m (k + i)) → slArgs ν caps k S) ∧ ∀ i s, S[i]? = some s → ∀ ν N0, FitB ν N0 σ (m (k + i)) (.ro s.row)
  | [], _, k => ⟨fun _ => (0, 0), fun _ => 0, fun i h => by simp at h, fun _ _ => trivial, fun i s h => by simp at h⟩
  | s :: S, h, k => by
    obtain ⟨m, caps, h1, h2, h3⟩ := rds_fitx hb0 hb1 (S := S) (fun s hs => h s (List.mem_cons_of_mem _ hs)) (k + 1)
    have hs := h s (List.mem_cons_self ..)
    have key : ∃ (a : Nat × Nat) (cap : Nat), (a.1 < σ.length ∧ a.1 ≠ n) ∧ (∀ ν : Nat → Nat × Nat, ν k = a → sees1 ν s.v (.sl k 0 s.len cap)) ∧ ∀ ν N0, FitB ν N0 σ a (.ro s.row) := by
      obtain ⟨hf, ⟨q, o, cap, cs, hv, hqn, hn, hc, hle, hw⟩ | ⟨hv, hl, hr⟩⟩ := hs
      · refine ⟨(q, o), cap, ⟨hn, hqn⟩, fun ν hj => .inl (by simp [ren1, renC, hj, hv]), fun ν N0 => ⟨all_flat hf, .inr ⟨cs, hc, hle, ?_⟩⟩⟩
        rw [map_flat hf, hw]
      · rw [hl, hr]
        exact ⟨(b0, 0), 0, ⟨hb1, hb0⟩, fun ν hj => .inr ⟨hv, k, 0, rfl⟩, fun ν N0 => ⟨rfl, .inl rfl⟩⟩
    obtain ⟨a, cap, ha1, ha2, ha3⟩ := key
    refine ⟨fun i => if i = k then a else m i, fun i => if i = k then cap else caps i, ?_, ?_, ?_⟩
    · intro i hi
      cases i with
      | zero => simpa using ha1
      | succ i =>
        have := h1 i (by simpa using hi)
        dsimp only
        rw [if_neg (by omega)]
        rwa [show k + (i + 1) = k + 1 + i from by omega]
    · intro ν hν
      refine ⟨?_, ?_⟩
      · dsimp only
        rw [if_pos rfl]
        exact ha2 ν (by have := hν 0 (by simp); simpa using this)
      · have hgen : ∀ (R : List Sl) (j : Nat), k < j → slArgs ν caps j R → slArgs ν (fun i => if i = k then cap else caps i) j R := by
          intro R
          induction R with
          | nil => intro _ _ _; trivial
          | cons r R ih => intro j hj hr; exact ⟨by dsimp only; rw [if_neg (by omega)]; exact hr.1, ih (j + 1) (by omega) hr.2⟩
        refine hgen S (k + 1) (by omega) (h2 ν fun i hi => ?_)
        have := hν (i + 1) (by simpa using hi)
        dsimp only at this
        rw [if_neg (by omega)] at this
        rwa [show k + 1 + i = k + (i + 1) from by omega]
    · intro i s' hs' ν N0
      cases i with
      | zero => simp at hs'; subst hs'; simpa using ha3 ν N0
      | succ i =>
        have := h3 i s' (by simpa using hs') ν N0
        dsimp only
        rw [if_neg (by omega)]
        rwa [show k + (i + 1) = k + 1 + i from by omega]

def plainRw : AB → Bool
  | .rw _ cs _ => cs.all flat
  | _ => false

/-- Names only blocks from N on. -/
def freshC (N : Nat) : AV → Bool
  | .sl n _ _ _ => Nat.ble N n
  | x => flat x
def fresh1 (N : Nat) : AV → Bool
  | .agg l => l.all flat
  | x => freshC N x
def fresh (N : Nat) : AV → Bool
  | .tup l => l.all (fresh1 N)
  | x => fresh1 N x

def shift (N0 N : Nat) : AV → AV := ren fun i => (N + (i - N0), 0)

theorem freshC_ren {N0 N : Nat} {ν : Nat → Nat × Nat} {x : AV} (h : freshC N0 x = true) : renC (out ν N0 N) x = renC (fun i => (N + (i - N0), 0)) x := by
  cases x <;> first | rfl | (cases h; done) | skip
  rename_i n o l c
  simp only [freshC] at h
  have : N0 ≤ n := by simpa using h
  simp only [renC, out, if_neg (show ¬ n < N0 by omega)]

theorem fresh1_ren {N0 N : Nat} {ν : Nat → Nat × Nat} {x : AV} (h : fresh1 N0 x = true) : ren1 (out ν N0 N) x = ren1 (fun i => (N + (i - N0), 0)) x := by
  cases x
  case agg l => simp only [ren1]; rw [map_flat h, map_flat h]
  all_goals exact freshC_ren (N0 := N0) (N := N) (ν := ν) (by simpa only [fresh1] using h)

theorem fresh_ren {N0 N : Nat} {ν : Nat → Nat × Nat} {x : AV} (h : fresh N0 x = true) : ren (out ν N0 N) x = shift N0 N x := by
  cases x
  case tup l =>
    simp only [ren, shift]
    congr 1
    apply List.map_congr_left
    intro y hy
    exact fresh1_ren (List.all_eq_true.1 h y hy)
  all_goals exact fresh1_ren (N0 := N0) (N := N) (ν := ν) (by simpa only [fresh] using h)

theorem plain_map {g : Nat → Nat × Nat} : ∀ {τ : List AB}, τ.all plainRw = true → τ.map (renB g) = τ
  | [], _ => rfl
  | B :: τ, h => by
    simp only [List.all_cons, Bool.and_eq_true] at h
    rw [List.map_cons, plain_map h.2]
    cases B with
    | rw ty cs r => simp only [renB]; rw [map_flat h.1]
    | _ => cases h.1

section
variable {P : Program} {f : FuncId} {σ : List AB} {K : AV → List AB → Prop}

/-- A call of a function that draws. -/
theorem call_rdr (ty : TypeId) {n m o c : Nat} {B : List Nat} {p : Int} (h : Rdr ty σ n B p m o c) (S : List Sl) (hS : ∀ s ∈ S, s.okx σ n) (rest : (Nat → Nat) → List AV) {restA : List AV} (G : AV → Int → List AB → Prop)
    (hb : ∀ q, CallWp P f (.p 1 0 :: rest q) (.ro (encByte.row B) :: .rw ty [.sl 0 0 B.length c, .i .i64 p] 2 :: slBl S) fun x σ' => ∃ p' τ, σ' = (.ro (encByte.row B) :: .rw ty [.sl 0 0 B.length c, .i .i64 p'] 2 :: slBl S) ++ τ ∧ G x p' τ)
    (hG : ∀ x p' τ, G x p' τ → τ.all plainRw = true ∧ fresh (2 + S.length) x = true) (ha : ∀ ν q, slArgs ν q 2 S → seesL ν restA (rest q)) (hbl : ∀ q, (rest q).all (below1 (2 + S.length)) = true)
    (hk : ∀ x p' τ, G x p' τ → K (shift (2 + S.length) σ.length x) (σ.set n (.rw ty [.sl m o B.length c, .i .i64 p'] 2) ++ τ)) : CallWp P f (.p n 0 :: restA) σ K := by
  obtain ⟨cs, hcs, hle, hw⟩ := h.win
  have hn : n < σ.length := (List.getElem?_eq_some_iff.1 h.blk).1
  have hm : m < σ.length := by
    rcases cellsOf_cases hcs with hh | ⟨_, _, hh⟩ <;> exact (List.getElem?_eq_some_iff.1 hh).1
  obtain ⟨μ, q, h1, h2, h3⟩ := rds_fitx h.ne hm hS 2
  let ν : Nat → Nat × Nat := fun i => if i = 0 then (m, o) else if i = 1 then (n, 0) else μ i
  have ν0 : ν 0 = (m, o) := rfl
  have ν1 : ν 1 = (n, 0) := rfl
  have ν2 : ∀ i, i < S.length → ν (2 + i) = μ (2 + i) := fun i _ => by simp only [ν]; rw [if_neg (by omega), if_neg (by omega)]
  have hlen : (AB.ro (encByte.row B) :: .rw ty [.sl 0 0 B.length c, .i .i64 p] 2 :: slBl S).length = 2 + S.length := by simp [slBl]; omega
  have hrow : (encByte.row B).length = B.length := by simpa [encByte] using encByte.row_length B
  have at0 : ∀ (i : Nat) (C : AB), (AB.ro (encByte.row B) :: .rw ty [.sl 0 0 B.length c, .i .i64 p] 2 :: slBl S)[i]? = some C → (i = 0 ∧ C = .ro (encByte.row B)) ∨ (i = 1 ∧ C = .rw ty [.sl 0 0 B.length c, .i .i64 p] 2) ∨ ∃ j s, i = 2 + j ∧ S[j]? = some s ∧ C = .ro s.row := by
    intro i C hi
    match i, hi with
    | 0, hi => cases hi; exact .inl ⟨rfl, rfl⟩
    | 1, hi => cases hi; exact .inr (.inl ⟨rfl, rfl⟩)
    | i + 2, hi =>
      refine .inr (.inr ⟨i, ?_⟩)
      simp only [List.getElem?_cons_succ, slBl, List.getElem?_map] at hi
      cases hs : S[i]? with
      | none => rw [hs] at hi; cases hi
      | some s => rw [hs] at hi; simp only [Option.map_some, Option.some.injEq] at hi; exact ⟨s, by omega, rfl, hi.symm⟩
  have hfit : Fits ν σ (.ro (encByte.row B) :: .rw ty [.sl 0 0 B.length c, .i .i64 p] 2 :: slBl S) := by
    refine ⟨fun i C hi => ?_, ?_⟩
    · rcases at0 i C hi with ⟨rfl, rfl⟩ | ⟨rfl, rfl⟩ | ⟨j, s, rfl, hj, rfl⟩
      · refine ⟨all_flat (encByte.row_flat B), .inr ⟨cs, by rw [ν0]; exact hcs, by rw [hrow, ν0]; exact hle, ?_⟩⟩
        rw [map_flat (encByte.row_flat B), hrow, ν0, hw]
      · refine ⟨?_, rfl, ?_⟩
        · rw [hlen]; simp [below]; omega
        · rw [ν1]
          simp only [List.map_cons, List.map_nil, renC, ν0, Nat.add_zero]
          exact h.blk
      · rw [ν2 j (List.getElem?_eq_some_iff.1 hj).1]
        exact h3 j s hj _ _
    · intro i C i' C' hi hC hi' hC' hne
      rcases at0 i C hi with ⟨rfl, rfl⟩ | ⟨rfl, rfl⟩ | ⟨j, s, rfl, hj, rfl⟩
      · cases hC
      · rw [ν1]
        rcases at0 i' C' hi' with ⟨rfl, rfl⟩ | ⟨rfl, rfl⟩ | ⟨j', s', rfl, hj', rfl⟩
        · rw [ν0]; exact h.ne
        · exact absurd rfl hne
        · have hlt := (List.getElem?_eq_some_iff.1 hj').1
          rw [ν2 j' hlt]; exact (h1 j' hlt).2
      · cases hC
  refine call_frame (ν := ν) (hb q) hfit ?_ ?_ ⟨.inl (by simp [ren1, renC, ν1]), ha ν q (h2 ν ν2)⟩ ?_
  · intro i hi
    rw [hlen] at hi
    match i, hi with
    | 0, _ => rw [ν0]; exact hm
    | 1, _ => rw [ν1]; exact hn
    | i + 2, hi =>
      have := ν2 i (by omega)
      rw [show i + 2 = 2 + i from by omega, this]
      exact (h1 i (by omega)).1
  · rw [hlen]
    simp only [List.all_cons, below1, below, Bool.and_eq_true, decide_eq_true_eq]
    exact ⟨by omega, hbl q⟩
  · rintro x σ' hl ⟨p', τ, rfl, hg⟩
    obtain ⟨hτ, hx⟩ := hG x p' τ hg
    have hlen' : (AB.ro (encByte.row B) :: .rw ty [.sl 0 0 B.length c, .i .i64 p'] 2 :: slBl S).length = 2 + S.length := by simp [slBl]; omega
    refine ⟨?_, ?_⟩
    · intro i C hi hlt
      by_cases hi' : i < 2 + S.length
      · obtain ⟨B0, hB0, hrw⟩ := hlt (by rw [hlen]; exact hi')
        rcases at0 i B0 hB0 with ⟨rfl, rfl⟩ | ⟨rfl, rfl⟩ | ⟨j, s, rfl, hj, rfl⟩
        · cases hrw
        · rw [List.getElem?_append_left (by rw [hlen']; omega)] at hi; cases hi; rfl
        · cases hrw
      · rw [List.getElem?_append_right (by rw [hlen']; omega)] at hi
        have := List.all_eq_true.1 hτ C (List.mem_of_getElem? hi)
        cases C <;> first | rfl | cases this
    · have e1 : plug ν σ (.ro (encByte.row B) :: .rw ty [.sl 0 0 B.length c, .i .i64 p] 2 :: slBl S) ((.ro (encByte.row B) :: .rw ty [.sl 0 0 B.length c, .i .i64 p'] 2 :: slBl S) ++ τ) = σ.set n (.rw ty [.sl m o B.length c, .i .i64 p'] 2) ++ τ := by
        rw [plug, hlen, show 2 + S.length = (AB.ro (encByte.row B) :: .rw ty [.sl 0 0 B.length c, .i .i64 p'] 2 :: slBl S).length from hlen'.symm, List.drop_left', plain_map hτ]
        · congr 1
          simp only [List.cons_append, updL, updL_ro]
          rw [ν1]
          simp only [renB, List.map_cons, List.map_nil, renC]
          have e0 : out ν (AB.ro (encByte.row B) :: .rw ty [.sl 0 0 B.length c, .i .i64 p'] 2 :: slBl S).length σ.length 0 = (m, o) := by rw [hlen']; simp only [out]; rw [if_pos (by omega), ν0]
          rw [e0]; rfl
        · rfl
      rw [e1, hlen, fresh_ren hx]
      exact hk x p' τ hg
end

/-- A call that writes a row in place. -/
theorem call_mut {P : Program} {f : FuncId} {σ : List AB} {K : AV → List AB → Prop} {ty : TypeId} {n len cap r : Nat} {row row' : List AV} {rest : List AV} {v : AV} (hb : σ[n]? = some (.rw ty row r)) (hr : row.all flat = true) (hr' : row'.all flat = true)
    (h : CallWp P f (.sl 0 0 len cap :: rest) [.rw ty row r] fun x σ' => x = v ∧ σ' = [.rw ty row' r]) (hrest : rest.all flat1 = true) (hv : flat1 v = true) (hk : K v (σ.set n (.rw ty row' r))) : CallWp P f (.sl n 0 len cap :: rest) σ K := by
  have hn : n < σ.length := (List.getElem?_eq_some_iff.1 hb).1
  refine call_frame (ν := fun _ => (n, 0)) h ?_ ?_ ?_ ⟨.inl (by simp [ren1, renC]), seesL_flat1 hrest⟩ ?_
  · refine ⟨fun i C hi => ?_, ?_⟩
    · match i, hi with
      | 0, hi =>
        cases hi
        exact ⟨all_flat hr, rfl, by rw [map_flat hr]; exact hb⟩
      | i + 1, hi => simp at hi
    · intro i C i' C' hi _ hi' _ hne
      match i, i', hi, hi' with
      | 0, 0, _, _ => exact absurd rfl hne
      | i + 1, _, hi, _ => simp at hi
      | 0, i' + 1, _, hi' => simp at hi'
  · intro i _; exact hn
  · simp only [List.all_cons, below1, below, Bool.and_eq_true]
    refine ⟨by simp, ?_⟩
    rw [List.all_eq_true] at hrest ⊢
    exact fun x hx => flat1_below (hrest x hx)
  · rintro x σ' _ ⟨rfl, rfl⟩
    refine ⟨?_, ?_⟩
    · intro i C hi hlt
      match i, hi with
      | 0, hi => cases hi; rfl
      | i + 1, hi => simp at hi
    · have e1 : plug (fun _ => (n, 0)) σ [.rw ty row r] [.rw ty row' r] = σ.set n (.rw ty row' r) := by
        simp [plug, updL, renB, map_flat hr']
      rw [e1, flat1_renT hv]
      exact hk
end Go.Abs
