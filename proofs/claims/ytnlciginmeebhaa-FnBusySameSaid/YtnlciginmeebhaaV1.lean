/- What a run is drawn from. -/
import Derived.Test.YtnlciginmeebhaaF2
import Derived.Test.YtnlciginmeebhaaS8
import Derived.Test.YtnlciginmeebhaaD4
import Derived.Test.YtnlciginmeebhaaMM
namespace Go.Proofs.Ytnlciginmeebhaa
open Go.Abs Go.Ds
set_option linter.unusedSimpArgs false
set_option linter.unusedVariables false
set_option maxRecDepth 20000

theorem Wk_trans {L0 nt : Nat} {s s1 s2 : St} (h : Wk L0 nt s s1) (h' : Wk L0 nt s1 s2) : Wk L0 nt s s2 := by
  intro F ρ a w hL hs
  obtain ⟨ρ1, e1, l1, hs1⟩ := h F ρ a w hL hs
  obtain ⟨ρ2, e2, l2, hs2⟩ := h' F ρ1 a w l1 hs1
  exact ⟨ρ2, fun n hn => (e2 n hn).trans (e1 n hn), l2, hs2⟩

theorem loop_wk {P : Program} {L0 nt : Nat} {c : LC} {Q : Exit → St → Prop} {s s0 : St} (h : Wk L0 nt s s0) (hw : wpC P L0 nt (.loop c) Q s0) : wpC P L0 nt (.loop c) Q s := by
  obtain ⟨I, μ, ⟨s1, h1, h2⟩, st⟩ := hw
  exact ⟨I, μ, ⟨s1, Wk_trans h h1, h2⟩, st⟩

theorem Rd.none {α : Type} {E : Enc α} {σ : List AB} (h : 0 < σ.length) : Rd E σ .sn [] := .inr ⟨rfl, rfl, h⟩

theorem edfRun_length (L : List Job) : (edfRun L).length = 120 := (simU_lens 120).2.2
theorem edfFin_length (L : List Job) : (edfFin L).length = L.length := (simU_lens 120).2.1

theorem legal_row {S : List Task} {L : List Job} (h : jobsLegal S L) {k : Nat} (hk : k < L.length) : (0 ≤ L[k].T ∧ L[k].T < S.length) ∧ (0 ≤ L[k].R ∧ L[k].R ≤ 119) ∧ (1 ≤ L[k].E ∧ L[k].E ≤ 8) ∧ L[k].R < L[k].D ∧ L[k].D ≤ 131 := by
  have h2 := h.2.1.mem (List.getElem_mem hk)
  have t1 := gT_ok h.1 h2.1.1 h2.1.2
  unfold Task.ok at t1
  have h3 : costOf S L[k].T = (gT S L[k].T).C := rfl
  have h4 := h.2.2.2 _ (List.getElem_mem hk)
  omega
theorem legal_E {S : List Task} {L : List Job} (h : jobsLegal S L) : ∀ j ∈ L, 1 ≤ j.E := fun j hj => (h.2.1.mem hj).2.2.1

theorem gI_row {l : List Int} {k : Nat} (h : k < l.length) : gI l k = l[k] := by simp [gI, List.getD_eq_getElem?_getD, h]

/-- What ran in a tick. -/
theorem edf_tick {S : List Task} {L : List Job} (hv : jobsLegal S L) {k : Nat} (hk : k < 120) (h : k < (edfRun L).length) : (edfRun L)[k] = -1 ∨ ∃ n : Nat, ∃ hn : n < L.length, ∃ hf : n < (edfFin L).length, (edfRun L)[k] = n ∧ L[n].R ≤ k ∧ ((edfFin L)[n] = -1 ∨ k < (edfFin L)[n]) := by
  have e := simU_at (L := L) (pick := edfPick L) hk
  change gI (edfRun L) k = _ at e
  rw [gI_row h] at e
  rcases edf_fair L k (simU L (edfPick L) k).done with e1 | ⟨n, e1, hn, hr⟩
  · exact .inl (e.trans e1)
  · have hf : n < (edfFin L).length := by rw [edfFin_length]; exact hn
    refine .inr ⟨n, hn, hf, e.trans e1, ?_, ?_⟩
    · simp only [readyJ, decide_eq_true_eq, List.getD_eq_getElem?_getD, List.getElem?_eq_getElem hn, Option.getD_some] at hr
      exact hr.1
    · rcases (runInv (edf_fair L) (legal_E hv) 120 n hn).fin with ⟨h1, _⟩ | ⟨f, h1, _, _, _, _, h6⟩
      · rw [show gI (simU L (edfPick L) 120).fin n = (edfFin L)[n] from gI_row hf] at h1
        exact .inl h1
      · rw [show gI (simU L (edfPick L) 120).fin n = (edfFin L)[n] from gI_row hf] at h1
        refine .inr ?_
        rcases Nat.lt_or_ge k f with h7 | h7
        · omega
        · exact absurd ((gI_row h).trans (e.trans e1)) (h6 k h7 hk)

/-- What became of a job. -/
theorem edf_job {S : List Task} {L : List Job} (hv : jobsLegal S L) {n : Nat} (hn : n < L.length) (hf : n < (edfFin L).length) : ((edfFin L)[n] = -1 ∧ ((edfRun L).count (n : Int) : Int) < L[n].E) ∨
    ∃ f : Nat, ∃ hr : f < (edfRun L).length, (edfFin L)[n] = (f : Int) + 1 ∧ ((edfRun L).count (n : Int) : Int) = L[n].E ∧ (edfRun L)[f] = n := by
  have hi := runInv (edf_fair L) (legal_E hv) 120 n hn
  have h3 := hi.cnt
  have gE : (L.getD n default).E = L[n].E := by simp [List.getD_eq_getElem?_getD, hn]
  rcases hi.fin with ⟨h1, h2⟩ | ⟨f, h1, h2, h4, h5, h6, _⟩
  · rw [show gI (simU L (edfPick L) 120).fin n = (edfFin L)[n] from gI_row hf] at h1
    refine .inl ⟨h1, ?_⟩
    change ((edfRun L).count (n : Int) : Int) = _ at h3
    omega
  · rw [show gI (simU L (edfPick L) 120).fin n = (edfFin L)[n] from gI_row hf] at h1
    change ((edfRun L).count (n : Int) : Int) = _ at h3
    have hr : f - 1 < (edfRun L).length := by rw [edfRun_length]; omega
    refine .inr ⟨f - 1, hr, by omega, by omega, ?_⟩
    rw [← h6]; exact (gI_row hr).symm

end Go.Proofs.Ytnlciginmeebhaa
