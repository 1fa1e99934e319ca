import Derived.Test.YtdmoafmgeipenaaMM
namespace Go.Ds
def takenPick (T : List Int) (L : List Job) (now : Nat) (done : List Int) : Int := if (now : Int) ∈ T then -1 else edfPick L now done
theorem taken_fair (T : List Int) (L : List Job) : Fair L (takenPick T L) := fun now done => by
  unfold takenPick
  split
  · exact .inl rfl
  · exact edf_fair L now done
def takeFin (T : List Int) (L : List Job) : List Int := (simU L (takenPick T L) 120).fin
def fitsT (L : List Job) (T : List Int) : Prop := missedL L (takeFin T L) = []
instance (L : List Job) (T : List Int) : Decidable (fitsT L T) := by unfold fitsT; infer_instance
theorem simU_same {L : List Job} {p q : Nat → List Int → Int} : ∀ n : Nat, (∀ t done, t < n → p t done = q t done) → simU L p n = simU L q n
  | 0, _ => rfl
  | n + 1, h => by
    rw [simU_succ, simU_succ, simU_same n fun t d ht => h t d (by omega)]
    unfold tick
    simp only [h n _ (Nat.lt_succ_self n)]
def stealUp (L : List Job) (t e : Int) : Nat → List Int
  | 0 => []
  | k + 1 => if ((stealUp L t e k).length : Int) < e ∧ fitsT L (stealUp L t e k ++ [t + k]) then stealUp L t e k ++ [t + k] else stealUp L t e k
def stealL (L : List Job) (t e : Int) : List Int := stealUp L t e (120 - t).toNat
theorem steal_stop {L : List Job} {t e : Int} {k : Nat} (h : e ≤ (stealUp L t e k).length) : ∀ m : Nat, stealUp L t e (k + m) = stealUp L t e k
  | 0 => rfl
  | m + 1 => by
    rw [← Nat.add_assoc]
    simp only [stealUp]
    rw [steal_stop h m, if_neg (fun g => by omega)]
theorem steal_all {L : List Job} {t e : Int} {k : Nat} (hk : k ≤ (120 - t).toNat) (h : e ≤ (stealUp L t e k).length ∨ 120 ≤ t + k) : stealUp L t e k = stealL L t e := by
  unfold stealL
  rcases h with h | h
  · have := steal_stop h ((120 - t).toNat - k)
    rw [show k + ((120 - t).toNat - k) = (120 - t).toNat by omega] at this
    exact this.symm
  · rw [show (120 - t).toNat = k by omega]
theorem steal_len {L : List Job} {t e : Int} (he : 0 ≤ e) : ∀ k : Nat, ((stealUp L t e k).length : Int) ≤ e ∧ (stealUp L t e k).length ≤ k
  | 0 => ⟨he, Nat.le_refl _⟩
  | k + 1 => by
    obtain ⟨h1, h2⟩ := steal_len (L := L) (t := t) he k
    simp only [stealUp]
    split
    · rw [List.length_append]; simp only [List.length_cons, List.length_nil]; omega
    · omega
theorem snoc_rows {o : List Int} {t : Int} {k : Nat} (h1 : ∀ i (h : i < o.length), t ≤ o[i] ∧ o[i] < t + k) (h2 : ∀ i (h : i < o.length) (h0 : 0 < i), o[i - 1]'(by omega) < o[i]) :
    (∀ i (h : i < (o ++ [t + (k : Int)]).length), t ≤ (o ++ [t + (k : Int)])[i] ∧ (o ++ [t + (k : Int)])[i] < t + (k + 1 : Nat)) ∧ ∀ i (h : i < (o ++ [t + (k : Int)]).length) (h0 : 0 < i), (o ++ [t + (k : Int)])[i - 1]'(by omega) < (o ++ [t + (k : Int)])[i] := by
  constructor
  · intro i h
    rw [List.length_append] at h
    simp only [List.length_cons, List.length_nil] at h
    by_cases hi : i < o.length
    · rw [List.getElem_append_left hi]
      have := h1 i hi
      omega
    · rw [List.getElem_append_right (by omega)]
      simp only [List.getElem_singleton]
      omega
  · intro i h h0
    rw [List.length_append] at h
    simp only [List.length_cons, List.length_nil] at h
    rw [List.getElem_append_left (show i - 1 < o.length by omega)]
    by_cases hi : i < o.length
    · rw [List.getElem_append_left hi]; exact h2 i hi h0
    · rw [List.getElem_append_right (by omega)]
      simp only [List.getElem_singleton]
      exact (h1 (i - 1) (by omega)).2
theorem steal_rows {L : List Job} {t e : Int} : ∀ k : Nat, (∀ i (h : i < (stealUp L t e k).length), t ≤ (stealUp L t e k)[i] ∧ (stealUp L t e k)[i] < t + k) ∧ ∀ i (h : i < (stealUp L t e k).length) (h0 : 0 < i), (stealUp L t e k)[i - 1]'(by omega) < (stealUp L t e k)[i]
  | 0 => ⟨fun i h => by simp [stealUp] at h, fun i h => by simp [stealUp] at h⟩
  | k + 1 => by
    obtain ⟨h1, h2⟩ := steal_rows (L := L) (t := t) (e := e) k
    by_cases hc : ((stealUp L t e k).length : Int) < e ∧ fitsT L (stealUp L t e k ++ [t + k])
    · have e1 : stealUp L t e (k + 1) = stealUp L t e k ++ [t + k] := by simp only [stealUp]; rw [if_pos hc]
      simp only [e1]
      exact snoc_rows h1 h2
    · have e1 : stealUp L t e (k + 1) = stealUp L t e k := by simp only [stealUp]; rw [if_neg hc]
      simp only [e1]
      exact ⟨fun i h => by have := h1 i h; omega, h2⟩
theorem steal_fits {L : List Job} {t e : Int} : ∀ k m : Nat, 1 ≤ m → m ≤ (stealUp L t e k).length → fitsT L ((stealUp L t e k).take m)
  | 0, m, h1, h2 => by simp [stealUp] at h2; omega
  | k + 1, m, h1, h2 => by
    by_cases hc : ((stealUp L t e k).length : Int) < e ∧ fitsT L (stealUp L t e k ++ [t + k])
    · have e1 : stealUp L t e (k + 1) = stealUp L t e k ++ [t + k] := by simp only [stealUp]; rw [if_pos hc]
      rw [e1] at h2 ⊢
      rw [List.length_append] at h2
      simp only [List.length_cons, List.length_nil] at h2
      by_cases hm : m ≤ (stealUp L t e k).length
      · rw [List.take_append_of_le_length hm]
        exact steal_fits k m h1 hm
      · rw [List.take_of_length_le (by rw [List.length_append]; simp only [List.length_cons, List.length_nil]; omega)]
        exact hc.2
    · have e1 : stealUp L t e (k + 1) = stealUp L t e k := by simp only [stealUp]; rw [if_neg hc]
      rw [e1] at h2 ⊢
      exact steal_fits k m h1 h2
theorem steal_first {L : List Job} {t e : Int} (he : 1 ≤ e) (hf : fitsT L [t]) : ∀ k : Nat, ∃ o, stealUp L t e (k + 1) = t :: o
  | 0 => ⟨[], by
    have e1 : stealUp L t e (0 + 1) = if ((stealUp L t e 0).length : Int) < e ∧ fitsT L (stealUp L t e 0 ++ [t + (0 : Nat)]) then stealUp L t e 0 ++ [t + (0 : Nat)] else stealUp L t e 0 := rfl
    have e2 : t + ((0 : Nat) : Int) = t := by omega
    rw [e1, e2, if_pos ⟨by show ((0 : Nat) : Int) < e; omega, hf⟩]; rfl⟩
  | k + 1 => by
    obtain ⟨o, h⟩ := steal_first he hf k
    rw [stealUp]
    split
    · exact ⟨o ++ [t + (k + 1 : Nat)], by rw [h]; rfl⟩
    · exact ⟨o, h⟩
end Go.Ds
