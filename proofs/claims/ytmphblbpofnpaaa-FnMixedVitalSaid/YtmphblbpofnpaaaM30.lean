import Derived.Test.YtmphblbpofnpaaaM29
namespace Go.Ds
def pkM (S : List MTask) (nu de : Int) (L : List Job) (t : Nat) : Int := mixQ S nu de L t (simU L (mixQ S nu de L) t).done
def dnM (S : List MTask) (nu de : Int) (L : List Job) (t i : Nat) : Int := doneAt L (mixQ S nu de L) t i
def backAt (S : List MTask) (nu de : Int) (L : List Job) (t : Nat) : MSt := stBack S L (mixS S nu de L t).st t (mixS S nu de L t).done
def elig (S : List MTask) (L : List Job) (fr : Int) (i : Nat) : Prop := vitJ S L i = true ∨ fr ≤ (L.getD i default).R
theorem dnM_eq {S : List MTask} {nu de : Int} {L : List Job} (t i : Nat) : dnM S nu de L t i = gI (mixS S nu de L t).done i := by unfold dnM doneAt; rw [mix_done_eq]
theorem pkM_eq {S : List MTask} {nu de : Int} {L : List Job} (t : Nat) : pkM S nu de L t = (mixPick S nu de L (mixS S nu de L t).st t (mixS S nu de L t).done).1 := by unfold pkM; rw [← mix_done_eq]; rfl
theorem pk_low {S : List MTask} {nu de : Int} {L : List Job} {t : Nat} (hl : (backAt S nu de L t).high = false) :
    (pkM S nu de L t = -1 ∧ ∀ i, i < L.length → elig S L (backAt S nu de L t).frm i → (L.getD i default).R ≤ t → (L.getD i default).E ≤ dnM S nu de L t i) ∨
    ∃ n : Nat, n < L.length ∧ pkM S nu de L t = n ∧ (L.getD n default).R ≤ t ∧ dnM S nu de L t n < (L.getD n default).E ∧ elig S L (backAt S nu de L t).frm n ∧
      ∀ i, i < L.length → elig S L (backAt S nu de L t).frm i → (L.getD i default).R ≤ t → dnM S nu de L t i < (L.getD i default).E → mixKey S nu de L n ≤ mixKey S nu de L i := by
  have hp := (@pick_back S nu de L (mixS S nu de L t).st t (mixS S nu de L t).done).2 hl
  have e0 : pkM S nu de L t = lowBest S nu de L (backAt S nu de L t).frm t (mixS S nu de L t).done := by rw [pkM_eq, hp]; rfl
  have hok : ∀ i, (readyJ L (mixS S nu de L t).done t i && lowOk S L (backAt S nu de L t).frm i) = true ↔ ((L.getD i default).R ≤ t ∧ dnM S nu de L t i < (L.getD i default).E) ∧ elig S L (backAt S nu de L t).frm i := fun i => by
    rw [Bool.and_eq_true]
    unfold readyJ lowOk elig
    rw [decide_eq_true_iff, Bool.or_eq_true, decide_eq_true_iff, dnM_eq]
  rcases bestF_spec (fun i => readyJ L (mixS S nu de L t).done t i && lowOk S L (backAt S nu de L t).frm i) (mixKey S nu de L) L.length with ⟨e, h⟩ | ⟨n, e, hn, h1, h2, _⟩
  · refine .inl ⟨e0.trans e, fun i hi he hR => ?_⟩
    apply Classical.byContradiction
    intro hlt
    have := (hok i).2 ⟨⟨hR, by omega⟩, he⟩
    rw [h i hi] at this; cases this
  · have := (hok n).1 h1
    exact .inr ⟨n, hn, e0.trans e, this.1.1, this.1.2, this.2, fun i hi he hR hlt => h2 i hi ((hok i).2 ⟨⟨hR, hlt⟩, he⟩)⟩
theorem pk_high {S : List MTask} {nu de : Int} {L : List Job} {t : Nat} (hl : (backAt S nu de L t).high = true) :
    ∃ n : Nat, n < L.length ∧ pkM S nu de L t = n ∧ (L.getD n default).R ≤ t ∧ dnM S nu de L t n < (L.getD n default).E ∧ vitJ S L n = true ∧
      ∀ i, i < L.length → vitJ S L i = true → (L.getD i default).R ≤ t → dnM S nu de L t i < (L.getD i default).E → (L.getD n default).D ≤ (L.getD i default).D := by
  have hp := (@pick_back S nu de L (mixS S nu de L t).st t (mixS S nu de L t).done).1 hl
  have e0 : pkM S nu de L t = vitBest S L t (mixS S nu de L t).done := by rw [pkM_eq, hp]
  have hpos : 0 ≤ vitBest S L t (mixS S nu de L t).done := by
    unfold backAt stBack at hl
    split at hl
    · cases hl
    · rename_i h1
      apply Classical.byContradiction
      intro hn
      exact h1 ⟨hl, by omega⟩
  have hok : ∀ i, (readyJ L (mixS S nu de L t).done t i && vitJ S L i) = true ↔ ((L.getD i default).R ≤ t ∧ dnM S nu de L t i < (L.getD i default).E) ∧ vitJ S L i = true := fun i => by
    rw [Bool.and_eq_true]
    unfold readyJ
    rw [decide_eq_true_iff, dnM_eq]
  rcases bestF_spec (fun i => readyJ L (mixS S nu de L t).done t i && vitJ S L i) (keyD L) L.length with ⟨e, h⟩ | ⟨n, e, hn, h1, h2, _⟩
  · unfold vitBest at hpos; omega
  · have := (hok n).1 h1
    exact ⟨n, hn, e0.trans e, this.1.1, this.1.2, this.2, fun i hi he hR hlt => h2 i hi ((hok i).2 ⟨⟨hR, hlt⟩, he⟩)⟩
/-- A stretch of low criticality. -/
structure Seg (S : List MTask) (nu de : Int) (L : List Job) (s k : Nat) : Prop where
  le : s ≤ k
  low : ∀ t, s ≤ t → t ≤ k → (backAt S nu de L t).high = false ∧ (backAt S nu de L t).frm = s
  past : ∀ i, i < L.length → vitJ S L i = true → (L.getD i default).R < s → (L.getD i default).E ≤ dnM S nu de L s i
theorem seg_of {S : List MTask} {nu de : Int} {L : List Job} (hR : ∀ i, i < L.length → 0 ≤ (L.getD i default).R) : ∀ k : Nat, (backAt S nu de L k).high = false → ∃ s, Seg S nu de L s k
  | 0, h => ⟨0, Nat.le_refl _, fun t _ h2 => by
      obtain rfl : t = 0 := by omega
      exact ⟨h, rfl⟩, fun i hi _ hlt => by have := hR i hi; omega⟩
  | k + 1, h => by
    cases hh : (mixS S nu de L (k + 1)).st.high with
    | true =>
      -- the state came back
      have hb : backAt S nu de L (k + 1) = ⟨false, ((k + 1 : Nat) : Int), (mixS S nu de L (k + 1)).st.first⟩ := by
        unfold backAt stBack at h ⊢
        split
        · rfl
        · rename_i h1
          rw [if_neg h1, hh] at h; cases h
      have hv : vitBest S L (k + 1) (mixS S nu de L (k + 1)).done < 0 := by
        apply Classical.byContradiction
        intro hn
        unfold backAt stBack at h
        rw [if_neg (fun g => hn g.2), hh] at h; cases h
      refine ⟨k + 1, Nat.le_refl _, fun t h1 h2 => ?_, fun i hi hvi hlt => ?_⟩
      · obtain rfl : t = k + 1 := by omega
        exact ⟨h, by rw [hb]⟩
      · rcases bestF_spec (fun i => readyJ L (mixS S nu de L (k + 1)).done (k + 1 : Nat) i && vitJ S L i) (keyD L) L.length with ⟨_, g⟩ | ⟨n, e, _⟩
        · have h2 := g i hi
          rw [hvi, Bool.and_true] at h2
          unfold readyJ at h2
          rw [decide_eq_false_iff_not] at h2
          rw [dnM_eq]
          omega
        · unfold vitBest at hv; omega
    | false =>
      have hb : backAt S nu de L (k + 1) = (mixS S nu de L (k + 1)).st := by
        unfold backAt stBack
        rw [if_neg (fun g => by rw [hh] at g; simp at g)]
      have hst : (mixS S nu de L (k + 1)).st = (mixPick S nu de L (mixS S nu de L k).st k (mixS S nu de L k).done).2 := sim_st k
      have hp := @pick_back S nu de L (mixS S nu de L k).st k (mixS S nu de L k).done
      cases hk : (backAt S nu de L k).high with
      | true =>
        rw [hst, hp.1 hk] at hh
        have hk' : (stBack S L (mixS S nu de L k).st k (mixS S nu de L k).done).high = true := hk
        simp only at hh
        rw [hk'] at hh; cases hh
      | false =>
        obtain ⟨s, hs⟩ := seg_of hR k hk
        have e : (mixS S nu de L (k + 1)).st = backAt S nu de L k := by
          rw [hst, hp.2 hk] at hh ⊢
          simp only at hh ⊢
          split
          · rename_i h1
            rw [if_pos h1] at hh; cases hh
          · rfl
        refine ⟨s, by have := hs.le; omega, fun t h1 h2 => ?_, hs.past⟩
        by_cases ht : t ≤ k
        · exact hs.low t h1 ht
        · obtain rfl : t = k + 1 := by omega
          refine ⟨h, ?_⟩
          rw [hb, e]
          exact (hs.low k hs.le (Nat.le_refl _)).2
theorem mixLegal.at {S : List MTask} {L : List Job} (h : mixLegal S L) {i : Nat} (hi : i < L.length) : (0 ≤ (L.getD i default).T ∧ (L.getD i default).T < S.length) ∧ (0 ≤ (L.getD i default).R ∧ (L.getD i default).R ≤ 119) ∧ (1 ≤ (L.getD i default).E ∧ (L.getD i default).E ≤ (gM S (L.getD i default).T).Hi) ∧ (L.getD i default).D = (L.getD i default).R + (gM S (L.getD i default).T).P ∧ (gM S (L.getD i default).T).ok := by
  have h2 := h.2.1.mem (getD_mem hi)
  exact ⟨h2.1, h2.2.1, h2.2.2, h.2.2.2 _ (getD_mem hi), gM_ok h.1 h2.1.1 h2.1.2⟩
section
variable {S : List MTask} {nu de : Int} {L : List Job}
theorem low_done (h : mixLegal S L) {s k : Nat} (hs : Seg S nu de L s k) {i : Nat} (hi : i < L.length) (hRi : (s : Int) ≤ (L.getD i default).R) : ∀ m : Nat, s + m ≤ k + 1 → dnM S nu de L (s + m) i ≤ (gM S (L.getD i default).T).Lo
  | 0, _ => by
    have := (h.at hi).2.2.2.2
    unfold MTask.ok at this
    rw [Nat.add_zero, show dnM S nu de L s i = 0 from done_rel (mix_fair S nu de L) hi s hRi]; omega
  | m + 1, hm => by
    have ih := low_done h hs hi hRi m (by omega)
    have hok := h.at hi
    have hok2 := hok.2.2.2.2
    unfold MTask.ok at hok2
    have hLo : ∀ i, i < L.length → 1 ≤ (gM S (L.getD i default).T).Lo := fun i hi => by
      have := (h.at hi).2.2.2.2
      unfold MTask.ok at this; omega
    rw [← Nat.add_assoc]
    unfold dnM at ih ⊢
    rcases pk_low (hs.low (s + m) (by omega) (by omega)).1 with ⟨e, _⟩ | ⟨n, hn, e, _, hlt, _⟩
    · have e' : mixQ S nu de L (s + m) (simU L (mixQ S nu de L) (s + m)).done = -1 := e
      rw [done_neg (by omega)]; exact ih
    · rw [done_pos e hn]
      by_cases hin : i = n
      · subst hin
        rw [if_pos rfl]
        cases hv : vitJ S L i with
        | true =>
          have hinv := mix_inv (nu := nu) (de := de) (mix_E h) hLo (s + m)
          have := low_pre hLo hinv (hs.low (s + m) (by omega) (by omega)).1 hi hv
          rw [← dnM_eq] at this
          unfold dnM at this hlt
          omega
        | false =>
          have : (gM S (L.getD i default).T).Hi = (gM S (L.getD i default).T).Lo := hok2.2.2.2 hv
          unfold dnM at hlt
          omega
      · rw [if_neg hin]; omega
end
end Go.Ds
