/- A call that lays rows behind the heap and answers with them. -/
import Derived.Test.YtgnlibnnpipbhaaAbsR
namespace Go.Abs
set_option linter.unusedVariables false
set_option linter.unusedSimpArgs false

def fresh1A (N : Nat) : AV → Bool
  | .agg l => l.all (freshC N)
  | x => freshC N x
def freshA (N : Nat) : AV → Bool
  | .tup l => l.all (fresh1A N)
  | x => fresh1A N x

theorem fresh1A_ren {N0 N : Nat} {ν : Nat → Nat × Nat} {x : AV} (h : fresh1A N0 x = true) : ren1 (out ν N0 N) x = ren1 (fun i => (N + (i - N0), 0)) x := by
  cases x
  case agg l =>
    simp only [ren1]
    congr 1
    apply List.map_congr_left
    intro y hy
    exact freshC_ren (List.all_eq_true.1 h y hy)
  all_goals exact freshC_ren (N0 := N0) (N := N) (ν := ν) (by simpa only [fresh1A] using h)

theorem freshA_ren {N0 N : Nat} {ν : Nat → Nat × Nat} {x : AV} (h : freshA N0 x = true) : ren (out ν N0 N) x = shift N0 N x := by
  cases x
  case tup l =>
    simp only [ren, shift]
    congr 1
    apply List.map_congr_left
    intro y hy
    exact fresh1A_ren (List.all_eq_true.1 h y hy)
  all_goals exact fresh1A_ren (N0 := N0) (N := N) (ν := ν) (by simpa only [freshA] using h)

theorem call_news {P : Program} {f : FuncId} {args : List AV} {σ : List AB} {K : AV → List AB → Prop} (S : List Sl) (hS : ∀ s ∈ S, s.ok σ) (args0 : (Nat → Nat) → List AV) (G : AV → List AB → Prop)
    (h : ∀ c, CallWp P f (args0 c) (slBl S) fun x σ' => ∃ τ, σ' = slBl S ++ τ ∧ G x τ) (hG : ∀ x τ, G x τ → τ.all plainRw = true ∧ freshA S.length x = true)
    (ha : ∀ ν c, slArgs ν c 0 S → seesL ν args (args0 c)) (hb : ∀ c, (args0 c).all (below1 S.length) = true) (hk : ∀ x τ, G x τ → K (shift S.length σ.length x) (σ ++ τ)) : CallWp P f args σ K := by
  obtain ⟨m, c, h1, h2, h3⟩ := rds_fit hS 0
  simp only [Nat.zero_add] at h1 h2 h3
  have hlen : (slBl S).length = S.length := by simp [slBl]
  refine call_frame (ν := m) (h c) (rds_all (fun _ _ => rfl) h3) ?_ ?_ (ha m c (h2 m fun _ _ => rfl)) ?_
  · intro n hn; exact h1 n (by simpa [slBl] using hn)
  · simpa [slBl] using hb c
  · rintro x σ' hl ⟨τ, rfl, hg⟩
    obtain ⟨hτ, hx⟩ := hG x τ hg
    refine ⟨?_, ?_⟩
    · intro n B hn hlt
      by_cases hn' : n < (slBl S).length
      · obtain ⟨B0, hB0, hrw⟩ := hlt hn'
        unfold slBl at hB0
        rw [List.getElem?_map] at hB0
        cases hs : S[n]? with
        | none => rw [hs] at hB0; cases hB0
        | some s => rw [hs] at hB0; simp only [Option.map_some, Option.some.injEq] at hB0; subst hB0; cases hrw
      · rw [List.getElem?_append_right (by omega)] at hn
        have := List.all_eq_true.1 hτ B (List.mem_of_getElem? hn)
        cases B <;> first | rfl | cases this
    · have e1 : plug m σ (slBl S) (slBl S ++ τ) = σ ++ τ := by
        rw [plug, updL_ro, List.drop_left', plain_map hτ]
        rfl
      rw [e1, hlen, freshA_ren hx]
      exact hk x τ hg
/-! ### blocks kept under other names, named by others that are kept -/
theorem Enc.row_ren {α : Type} (E : Enc α) (L : List α) (ν : Nat → Nat × Nat) : (E.row L).map (renC ν) = E.row L := map_flat (E.row_flat L)

theorem ren_fits {σ σ1 : List AB} (ν : List Nat) (hσ : σ1.map (renB (nat2 ν)) = pickB σ ν) (hlt : ltAll σ.length ν = true) (hn : nodup ν = true) (hf : σ1.all (cellsIn σ1.length) = true) : FitsW (nat2 ν) σ σ1 := by
  have at_ : ∀ {n : Nat} {B : AB}, σ1[n]? = some B → n < ν.length ∧ renB (nat2 ν) B = σ.getD (ν.getD n 0) .dead := by
    intro n B h
    refine pickB_at ?_
    rw [← hσ, List.getElem?_map, h]; rfl
  refine ⟨fun n B h => ?_, ?_⟩
  · obtain ⟨h1, h2⟩ := at_ h
    have hm : ν.getD n 0 < σ.length := by
      unfold ltAll at hlt
      rw [List.all_eq_true] at hlt
      have : ν.getD n 0 ∈ ν := by rw [List.getD_eq_getElem?_getD, List.getElem?_eq_getElem h1]; exact List.getElem_mem _
      exact by simpa using hlt _ this
    have hg : σ[ν.getD n 0]? = some (renB (nat2 ν) B) := by rw [h2, List.getD_eq_getElem?_getD (l := σ), List.getElem?_eq_getElem hm]; rfl
    have hB := List.all_eq_true.1 hf B (List.mem_of_getElem? h)
    cases B with
    | dead => trivial
    | ro cs =>
      refine ⟨hB, .inr ⟨cs.map (renC (nat2 ν)), by simp only [nat2, cellsOf, hg, renB], by simp [nat2], ?_⟩⟩
      simp only [win, nat2, List.drop_zero]
      rw [List.take_of_length_le (by simp)]
    | rw ty cs r => exact .inr ⟨hB, rfl, hg⟩
    | mb P k e n f => exact ⟨rfl, hg⟩
  · intro n B m B' h _ h' _ hne
    exact nodup_at hn m n (at_ h').1 (at_ h).1 hne

theorem Wk.pickR {L0 nt : Nat} {T T1 : List (Nat × AV)} {σ σ1 : List AB} (ν : List Nat) (hT : seesT (nat2 ν) T σ1.length T1 := by simp [Go.Abs.seesT, Go.Abs.belowT, Go.Abs.below1, Go.Abs.below, Go.Abs.sees, Go.Abs.ren, Go.Abs.ren1, Go.Abs.renC, Go.Abs.rnp, Go.Abs.nat2, Go.Abs.look_cons, Go.Abs.St.put])
    (hσ : σ1.map (renB (nat2 ν)) = pickB σ ν := by simp [Go.Abs.renB, Go.Abs.renC, Go.Abs.nat2, Go.Abs.pickB, Go.Abs.Enc.row_ren]) (hlt : ltAll σ.length ν = true := by rfl) (hn : nodup ν = true := by rfl) (hL : L0 ≤ σ1.length := by simp)
    (hid : idL L0 ν := by simp [Go.Abs.idL]) (hf : σ1.all (cellsIn σ1.length) = true := by simp [Go.Abs.cellsIn, Go.Abs.Enc.row_bel, Go.Abs.below]) : Wk L0 nt ⟨T, σ⟩ ⟨T1, σ1⟩ :=
  Wk.of ν hL (idL_at hid) ⟨seesT_at hT, ren_fits ν hσ hlt hn hf⟩

theorem Fin.pickR {L0 : Nat} {σ : List AB} {v : AV} {K : AV → List AB → Prop} (ν : List Nat) (v1 : AV) (σ1 : List AB) (hk : K v1 σ1) (hσ : σ1.map (renB (nat2 ν)) = pickB σ ν := by simp [Go.Abs.renB, Go.Abs.renC, Go.Abs.nat2, Go.Abs.pickB, Go.Abs.Enc.row_ren]) (hlt : ltAll σ.length ν = true := by rfl) (hn : nodup ν = true := by rfl) (hL : L0 ≤ σ1.length := by simp)
    (hid : idL L0 ν := by simp [Go.Abs.idL]) (hf : σ1.all (cellsIn σ1.length) = true := by simp [Go.Abs.cellsIn, Go.Abs.Enc.row_bel, Go.Abs.below]) (hv : sees (nat2 ν) v v1 := by simp [Go.Abs.sees, Go.Abs.ren, Go.Abs.ren1, Go.Abs.renC, Go.Abs.rnp, Go.Abs.nat2]) (hb : belowT σ1.length v1 = true := by simp [Go.Abs.belowT, Go.Abs.below1, Go.Abs.below]) : Fin L0 σ v K :=
  Fin.of ν hL (idL_at hid) hv hb (ren_fits ν hσ hlt hn hf) hk
end Go.Abs
