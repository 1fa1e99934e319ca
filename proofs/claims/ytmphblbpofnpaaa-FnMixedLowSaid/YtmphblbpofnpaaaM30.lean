import Derived.Test.YtmphblbpofnpaaaM29
namespace Go.Ds
def pkM (S : List MTask) (nu de : Int) (L : List Job) (t : Nat) : Int := mixQ S nu de L t (simU L (mixQ S nu de L) t).done
def dnM (S : List MTask) (nu de : Int) (L : List Job) (t i : Nat) : Int := doneAt L (mixQ S nu de L) t i
def backAt (S : List MTask) (nu de : Int) (L : List Job) (t : Nat) : MSt := stBack S L (mixS S nu de L t).st t (mixS S nu de L t).done
def elig (S : List MTask) (L : List Job) (fr : Int) (i : Nat) : Prop := vitJ S L i = true ∨ fr ≤ (L.getD i default).R
theorem dnM_eq {S : List MTask} {nu de : Int} {L : List Job} (t i : Nat) : dnM S nu de L t i = gI (mixS S nu de L t).done i := by unfold dnM doneAt; rw [mix_done_eq]
theorem pkM_eq {S : List MTask} {nu de : Int} {L : List Job} (t : Nat) : pkM S nu de L t = (mixPick S nu de L (mixS S nu de L t).st t (mixS S nu de L t).done).1 := by unfold pkM; rw [← mix_done_eq]; rfl
theorem pk_low {S : List MTask} {nu de : Int} {L : List Job} {t : Nat} (hl : (backAt S nu de L t).high = false) :
    (pkM S nu de L t = -1 ∧ ∀ i, i < L.length → elig S L (backAt S nu de L t).frm i → (L.getD i default).R ≤ t → (L.getD i default).E ≤ dnM S nu de L t i) ∨
    ∃ n : Nat, n < L.length ∧ pkM S nu de L t = n ∧ (L.getD n default).R ≤ t ∧ dnM S nu de L t n < (L.getD n default).E ∧ elig S L (backAt S nu de L t).frm n ∧
      ∀ i, i < L.length → elig S L (backAt S nu de L t).frm i → (L.getD i default).R ≤ t → dnM S nu de L t i < (L.getD i default).E → mixKey S nu de L n ≤ mixKey S nu de L i := by
  have hp := (@pick_back S nu de L (mixS S nu de L t).st t (mixS S nu de L t).done).2 hl
  have e0 : pkM S nu de L t = lowBest S nu de L (backAt S nu de L t).frm t (mixS S nu de L t).done := by rw [pkM_eq, hp]; rfl
  have hok : ∀ i, (readyJ L (mixS S nu de L t).done t i && lowOk S L (backAt S nu de L t).frm i) = true ↔ ((L.getD i default).R ≤ t ∧ dnM S nu de L t i < (L.getD i default).E) ∧ elig S L (backAt S nu de L t).frm i := fun i => by
    rw [Bool.and_eq_true]
    unfold readyJ lowOk elig
    rw [decide_eq_true_iff, Bool.or_eq_true, decide_eq_true_iff, dnM_eq]
  rcases bestF_spec (fun i => readyJ L (mixS S nu de L t).done t i && lowOk S L (backAt S nu de L t).frm i) (mixKey S nu de L) L.length with ⟨e, h⟩ | ⟨n, e, hn, h1, h2, _⟩
  · refine .inl ⟨e0.trans e, fun i hi he hR => ?_⟩
    apply Classical.byContradiction
    intro hlt
    have := (hok i).2 ⟨⟨hR, by omega⟩, he⟩
    rw [h i hi] at this; cases this
  · have := (hok n).1 h1
    exact .inr ⟨n, hn, e0.trans e, this.1.1, this.1.2, this.2, fun i hi he hR hlt => h2 i hi ((hok i).2 ⟨⟨hR, hlt⟩, he⟩)⟩
/-- A stretch of low criticality. -/
structure Seg (S : List MTask) (nu de : Int) (L : List Job) (s k : Nat) : Prop where
  le : s ≤ k
  low : ∀ t, s ≤ t → t ≤ k → (backAt S nu de L t).high = false ∧ (backAt S nu de L t).frm = s
  past : ∀ i, i < L.length → vitJ S L i = true → (L.getD i default).R < s → (L.getD i default).E ≤ dnM S nu de L s i
theorem mixLegal.at {S : List MTask} {L : List Job} (h : mixLegal S L) {i : Nat} (hi : i < L.length) : (0 ≤ (L.getD i default).T ∧ (L.getD i default).T < S.length) ∧ (0 ≤ (L.getD i default).R ∧ (L.getD i default).R ≤ 119) ∧ (1 ≤ (L.getD i default).E ∧ (L.getD i default).E ≤ (gM S (L.getD i default).T).Hi) ∧ (L.getD i default).D = (L.getD i default).R + (gM S (L.getD i default).T).P ∧ (gM S (L.getD i default).T).ok := by
  have h2 := h.2.1.mem (getD_mem hi)
  exact ⟨h2.1, h2.2.1, h2.2.2, h.2.2.2 _ (getD_mem hi), gM_ok h.1 h2.1.1 h2.1.2⟩
section
variable {S : List MTask} {nu de : Int} {L : List Job}
theorem low_done (h : mixLegal S L) {s k : Nat} (hs : Seg S nu de L s k) {i : Nat} (hi : i < L.length) (hRi : (s : Int) ≤ (L.getD i default).R) : ∀ m : Nat, s + m ≤ k + 1 → dnM S nu de L (s + m) i ≤ (gM S (L.getD i default).T).Lo
  | 0, _ => by
    have := (h.at hi).2.2.2.2
    unfold MTask.ok at this
    rw [Nat.add_zero, show dnM S nu de L s i = 0 from done_rel (mix_fair S nu de L) hi s hRi]; omega
  | m + 1, hm => by
    have ih := low_done h hs hi hRi m (by omega)
    have hok := h.at hi
    have hok2 := hok.2.2.2.2
    unfold MTask.ok at hok2
    have hLo : ∀ i, i < L.length → 1 ≤ (gM S (L.getD i default).T).Lo := fun i hi => by
      have := (h.at hi).2.2.2.2
      unfold MTask.ok at this; omega
    rw [← Nat.add_assoc]
    unfold dnM at ih ⊢
    rcases pk_low (hs.low (s + m) (by omega) (by omega)).1 with ⟨e, _⟩ | ⟨n, hn, e, _, hlt, _⟩
    · have e' : mixQ S nu de L (s + m) (simU L (mixQ S nu de L) (s + m)).done = -1 := e
      rw [done_neg (by omega)]; exact ih
    · rw [done_pos e hn]
      by_cases hin : i = n
      · subst hin
        rw [if_pos rfl]
        cases hv : vitJ S L i with
        | true =>
          have hinv := mix_inv (nu := nu) (de := de) (mix_E h) hLo (s + m)
          have := low_pre hLo hinv (hs.low (s + m) (by omega) (by omega)).1 hi hv
          rw [← dnM_eq] at this
          unfold dnM at this hlt
          omega
        | false =>
          have : (gM S (L.getD i default).T).Hi = (gM S (L.getD i default).T).Lo := hok2.2.2.2 hv
          unfold dnM at hlt
          omega
      · rw [if_neg hin]; omega
end
end Go.Ds
