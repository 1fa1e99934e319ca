import Derived.Test.YtfngcejaphhmmaaM35
namespace Go.Ds
theorem sumI_atT {v : Int} {t : Int} : ∀ m : Nat, 0 ≤ t → sumI (fun k => if t = (k : Int) then v else 0) m = if t < m then v else 0
  | 0, h => by rw [if_neg (by omega)]; rfl
  | m + 1, h => by
    simp only [sumI]
    rw [sumI_atT m h]
    by_cases h1 : t = (m : Int)
    · rw [if_neg (by omega), if_pos h1, if_pos (by omega)]; omega
    · rw [if_neg h1]
      by_cases h2 : t < (m : Int)
      · rw [if_pos h2, if_pos (by omega)]; omega
      · rw [if_neg h2, if_neg (by omega)]; omega
def cntK (S : List Task) (t0 : Nat) (k : Nat) (m : Nat) : Int := sumI (fun i => if tabAt S (t0 + i) = (k : Int) then 1 else 0) m
theorem cntK_all {S : List Task} {t0 : Nat} : ∀ m : Nat, (∀ i, i < m → ∃ b : Nat, b < S.length ∧ tabAt S (t0 + i) = b) → sumI (fun k => cntK S t0 k m) S.length = m
  | 0, _ => sumI_zero fun _ _ => rfl
  | m + 1, h => by
    obtain ⟨b, hb, e⟩ := h m (by omega)
    rw [sumI_add (h := fun k : Nat => cntK S t0 k (m + 1)) (f := fun k : Nat => cntK S t0 k m) (g := fun k : Nat => if tabAt S (t0 + m) = (k : Int) then 1 else 0) (fun i _ => rfl), cntK_all m fun i hi => h i (by omega), sumI_atT S.length (by omega), if_pos (by omega)]
    omega
theorem same_div {P : Int} (hP : 1 ≤ P) {u t : Nat} (hut : u ≤ t) (h : (t : Int) / P * P ≤ u) : (t : Int) / P = (u : Int) / P := by
  have h1 : (u : Int) / P ≤ (t : Int) / P := Int.ediv_le_ediv (by omega) (by omega)
  have h2 := (Int.le_ediv_iff_mul_le (show 0 < P by omega)).2 h
  omega
theorem div_next {P : Int} (hP : 1 ≤ P) (t : Nat) : (((t + 1 : Nat) : Int) % P = 0 ∧ ((t + 1 : Nat) : Int) / P * P = ((t + 1 : Nat) : Int)) ∨ (((t + 1 : Nat) : Int) % P ≠ 0 ∧ ((t + 1 : Nat) : Int) / P = (t : Int) / P) := by
  have e1 := Int.emod_add_mul_ediv ((t + 1 : Nat) : Int) P
  have e3 := Int.emod_nonneg ((t + 1 : Nat) : Int) (show P ≠ 0 by omega)
  rw [Int.mul_comm] at e1
  by_cases h : ((t + 1 : Nat) : Int) % P = 0
  · exact .inl ⟨h, by omega⟩
  · exact .inr ⟨h, same_div hP (by omega) (by omega)⟩
theorem tab_safe {S : List Task} (hS : setOk S) (hf : ∀ t : Nat, dbf S t ≤ t) {d j : Nat} (hj : j < S.length) (hD : (gT S j).D ≤ d) (hm : ((d : Int) - (gT S j).D) % (gT S j).P = 0) : gI (tabLf S d) j = 0 := by
  apply Classical.byContradiction
  intro hne
  have hpos : 0 < gI (tabLf S d) j := by have := lf_bound hS hj d; omega
  have ok : ∀ {k : Nat}, k < S.length → (1 ≤ (gT S k).C ∧ (gT S k).C ≤ (gT S k).D) ∧ (gT S k).D ≤ (gT S k).P ∧ 1 ≤ (gT S k).P := fun {k} hk => by
    have := gT_okN hS hk
    unfold Task.ok at this
    omega
  have okj := ok hj
  obtain ⟨t0, ht0, hQ, hmin⟩ := least (Q := fun a => ∀ t, a ≤ t → t < d → ∃ b : Nat, b < S.length ∧ tabAt S t = b ∧ dueT S t b ≤ d) d (fun t h1 h2 => by omega)
  have prev : ∀ k, k < S.length → 0 < t0 → 0 < gI (tabLr S (t0 - 1)) k → dueT S (t0 - 1) k ≤ d → False := fun k hk h0 hl hd => by
    rcases hmin with e | hmin
    · omega
    · apply hmin
      intro t h1 h2
      by_cases e : t = t0 - 1
      · subst e
        rcases tab_pick (S := S) (t0 - 1) with ⟨_, g⟩ | ⟨b, hb, e2, _, g⟩
        · have := g k hk; omega
        · have := g k hk hl
          exact ⟨b, hb, e2, by omega⟩
      · exact hQ t (by omega) h2
  have busy : ∀ t k, t0 ≤ t → k < S.length → 0 < gI (tabLr S t) k → dueT S t k ≤ d → (t0 : Int) ≤ (t : Int) / (gT S k).P * (gT S k).P := fun t k h1 hk hl hd => by
    apply Classical.byContradiction
    intro hlt
    have hk2 := ok hk
    have hrel : 0 ≤ (t : Int) / (gT S k).P * (gT S k).P := Int.mul_nonneg (Int.ediv_nonneg (by omega) (by omega)) (by omega)
    have e := same_div (P := (gT S k).P) (by omega) (show t0 - 1 ≤ t by omega) (by omega)
    have hmn := lr_mono hS hk (u := t0 - 1) (t - (t0 - 1)) (by rw [show t0 - 1 + (t - (t0 - 1)) = t by omega]; exact e)
    rw [show t0 - 1 + (t - (t0 - 1)) = t by omega] at hmn
    refine prev k hk (by omega) (by omega) ?_
    unfold dueT at hd ⊢
    rw [← e]; exact hd
  -- the last tick before the deadline
  have hd1 : 1 ≤ d := by omega
  have hdiv : ((d - 1 : Nat) : Int) / (gT S j).P * (gT S j).P = (d : Int) - (gT S j).D := by
    have e1 := Int.emod_add_mul_ediv ((d : Int) - (gT S j).D) (gT S j).P
    rw [hm, Int.zero_add, Int.mul_comm] at e1
    have e2 : ((d - 1 : Nat) : Int) / (gT S j).P = ((d : Int) - (gT S j).D) / (gT S j).P := by
      have a1 : ((d : Int) - (gT S j).D) / (gT S j).P ≤ ((d - 1 : Nat) : Int) / (gT S j).P := Int.ediv_le_ediv (by omega) (by omega)
      have a2 : ((d - 1 : Nat) : Int) / (gT S j).P < ((d : Int) - (gT S j).D) / (gT S j).P + 1 := by
        rw [Int.ediv_lt_iff_lt_mul (by omega), Int.add_mul, Int.one_mul]
        omega
      omega
    rw [e2]; exact e1
  have hduej : dueT S (d - 1) j ≤ d := by unfold dueT; omega
  have hlrj := lf_succ (S := S) (t := d - 1) hj
  rw [show d - 1 + 1 = d by omega] at hlrj
  have hlr0 : 0 < gI (tabLr S (d - 1)) j := by split at hlrj <;> omega
  have ht0d : t0 < d := by
    apply Classical.byContradiction
    intro hge
    have e : t0 = d := by omega
    subst e
    exact prev j hj (by omega) hlr0 hduej
  have inv : ∀ k, k < S.length → ∀ m : Nat, t0 + m < d → cntK S t0 k m + (if (t0 : Int) ≤ ((t0 + m : Nat) : Int) / (gT S k).P * (gT S k).P ∧ dueT S (t0 + m) k ≤ d then gI (tabLr S (t0 + m)) k else 0) ≤ cntR (gT S k).P (gT S k).D t0 d (m + 1) * (gT S k).C := fun k hk => by
    have hk2 := ok hk
    intro m
    induction m with
    | zero =>
      intro _
      have hb := lr_bound hS hk (t0 + 0)
      have e0 : cntK S t0 k 0 = 0 := rfl
      have e1 : cntR (gT S k).P (gT S k).D t0 d 1 = 0 + if ((t0 + 0 : Nat) : Int) % (gT S k).P = 0 ∧ ((t0 + 0 : Nat) : Int) + (gT S k).D ≤ d then 1 else 0 := rfl
      rw [e0, e1]
      by_cases hc : (t0 : Int) ≤ ((t0 + 0 : Nat) : Int) / (gT S k).P * (gT S k).P ∧ dueT S (t0 + 0) k ≤ d
      · have e2 := Int.emod_add_mul_ediv ((t0 + 0 : Nat) : Int) (gT S k).P
        have e3 := Int.emod_nonneg ((t0 + 0 : Nat) : Int) (show (gT S k).P ≠ 0 by omega)
        rw [Int.mul_comm] at e2
        have hdu := hc.2
        unfold dueT at hdu
        rw [if_pos hc, if_pos (by omega)]
        omega
      · rw [if_neg hc]
        split <;> omega
    | succ m ih =>
      intro hlt
      have ih := ih (by omega)
      have hb := lr_bound hS hk (t0 + m)
      have hb1 := lr_bound hS hk (t0 + m + 1)
      have e0 : cntK S t0 k (m + 1) = cntK S t0 k m + if tabAt S (t0 + m) = (k : Int) then 1 else 0 := rfl
      have e1 : cntR (gT S k).P (gT S k).D t0 d (m + 1 + 1) = cntR (gT S k).P (gT S k).D t0 d (m + 1) + if ((t0 + (m + 1) : Nat) : Int) % (gT S k).P = 0 ∧ ((t0 + (m + 1) : Nat) : Int) + (gT S k).D ≤ d then 1 else 0 := rfl
      have hrun : tabAt S (t0 + m) = (k : Int) → ((t0 : Int) ≤ ((t0 + m : Nat) : Int) / (gT S k).P * (gT S k).P ∧ dueT S (t0 + m) k ≤ d) ∧ 1 ≤ gI (tabLr S (t0 + m)) k := fun hk3 => by
        obtain ⟨b, hb, e2, hdue⟩ := hQ (t0 + m) (by omega) (by omega)
        have : b = k := by omega
        subst this
        rcases tab_pick (S := S) (t0 + m) with ⟨e3, _⟩ | ⟨b', _, e3, h3, _⟩
        · omega
        · have : b' = b := by omega
          subst this
          exact ⟨⟨busy _ _ (by omega) hk h3 hdue, hdue⟩, h3⟩
      rw [e0, e1, Int.add_mul]
      rw [show t0 + (m + 1) = t0 + m + 1 from rfl]
      rcases div_next (P := (gT S k).P) (by omega) (t0 + m) with ⟨g1, g2⟩ | ⟨g1, g2⟩
      · have hx : cntK S t0 k m + (if tabAt S (t0 + m) = (k : Int) then 1 else 0) ≤ cntR (gT S k).P (gT S k).D t0 d (m + 1) * (gT S k).C := by
          by_cases hk3 : tabAt S (t0 + m) = (k : Int)
          · obtain ⟨h4, h5⟩ := hrun hk3
            rw [if_pos h4] at ih
            rw [if_pos hk3]; omega
          · rw [if_neg hk3]
            split at ih <;> omega
        have hdu : dueT S (t0 + m + 1) k = ((t0 + m + 1 : Nat) : Int) + (gT S k).D := by unfold dueT; omega
        by_cases hc : ((t0 + m + 1 : Nat) : Int) + (gT S k).D ≤ d
        · rw [if_pos (show (t0 : Int) ≤ ((t0 + m + 1 : Nat) : Int) / (gT S k).P * (gT S k).P ∧ dueT S (t0 + m + 1) k ≤ d from ⟨by omega, by omega⟩), if_pos (show ((t0 + m + 1 : Nat) : Int) % (gT S k).P = 0 ∧ ((t0 + m + 1 : Nat) : Int) + (gT S k).D ≤ d from ⟨g1, hc⟩)]
          omega
        · rw [if_neg (show ¬ ((t0 : Int) ≤ ((t0 + m + 1 : Nat) : Int) / (gT S k).P * (gT S k).P ∧ dueT S (t0 + m + 1) k ≤ d) from fun g => hc (by have := g.2; omega)), if_neg (show ¬ (((t0 + m + 1 : Nat) : Int) % (gT S k).P = 0 ∧ ((t0 + m + 1 : Nat) : Int) + (gT S k).D ≤ d) from fun g => hc g.2)]
          omega
      · have hdu : dueT S (t0 + m + 1) k = dueT S (t0 + m) k := by unfold dueT; rw [g2]
        have hlr : gI (tabLr S (t0 + m + 1)) k = gI (tabLr S (t0 + m)) k - if tabAt S (t0 + m) = (k : Int) then 1 else 0 := by
          rw [lr_get hk, if_neg g1, lf_succ hk]
        rw [g2, hdu, if_neg (fun g : ((t0 + m + 1 : Nat) : Int) % (gT S k).P = 0 ∧ _ => g1 g.1), hlr]
        by_cases hk3 : tabAt S (t0 + m) = (k : Int)
        · obtain ⟨h4, h5⟩ := hrun hk3
          rw [if_pos h4] at ih ⊢
          rw [if_pos hk3]; omega
        · rw [if_neg hk3]
          split at ih
          · rename_i h4; rw [if_pos h4]; omega
          · rename_i h4; rw [if_neg h4]; omega
  obtain ⟨m, hm1⟩ : ∃ m, t0 + m + 1 = d := ⟨d - t0 - 1, by omega⟩
  have hd2 : d - 1 = t0 + m := by omega
  rw [hd2] at hlrj hlr0 hduej
  have lastk : ∀ k, k < S.length → cntK S t0 k (m + 1) ≤ cntR (gT S k).P (gT S k).D t0 d (m + 1) * (gT S k).C := fun k hk => by
    have ih := inv k hk m (by omega)
    have hb := lr_bound hS hk (t0 + m)
    have e0 : cntK S t0 k (m + 1) = cntK S t0 k m + if tabAt S (t0 + m) = (k : Int) then 1 else 0 := rfl
    rw [e0]
    by_cases hk3 : tabAt S (t0 + m) = (k : Int)
    · obtain ⟨b, hb, e2, hdue⟩ := hQ (t0 + m) (by omega) (by omega)
      have : b = k := by omega
      subst this
      rcases tab_pick (S := S) (t0 + m) with ⟨e3, _⟩ | ⟨b', _, e3, h3, _⟩
      · omega
      · have : b' = b := by omega
        subst this
        rw [if_pos ⟨busy _ _ (by omega) hk h3 hdue, hdue⟩] at ih
        rw [if_pos hk3]; omega
    · rw [if_neg hk3]
      split at ih <;> omega
  have lastj : cntK S t0 j (m + 1) < cntR (gT S j).P (gT S j).D t0 d (m + 1) * (gT S j).C := by
    have ih := inv j hj m (by omega)
    have e0 : cntK S t0 j (m + 1) = cntK S t0 j m + if tabAt S (t0 + m) = (j : Int) then 1 else 0 := rfl
    rw [if_pos ⟨busy _ _ (by omega) hj hlr0 hduej, hduej⟩] at ih
    rw [e0]
    omega
  have hall := cntK_all (S := S) (t0 := t0) (m + 1) (fun i hi => by
    obtain ⟨b, hb, e2, _⟩ := hQ (t0 + i) (by omega) (by omega)
    exact ⟨b, hb, e2⟩)
  have hlt := sumI_lt (f := fun k => cntK S t0 k (m + 1)) (g := fun k : Nat => cntR (gT S k).P (gT S k).D t0 d (m + 1) * (gT S k).C) (n := S.length) (fun k hk => lastk k hk) hj lastj
  have hle : sumI (fun k : Nat => cntR (gT S k).P (gT S k).D t0 d (m + 1) * (gT S k).C) S.length ≤ sumI (fun k : Nat => dbf1 (gT S k) ((d : Int) - t0)) S.length := sumI_le fun k hk => cntR_le (gT_okN hS hk) (by omega)
  have hdb := hf (d - t0)
  rw [dbf_all] at hdb
  unfold dbfN at hdb
  rw [show ((d - t0 : Nat) : Int) = (d : Int) - t0 by omega] at hdb
  omega
end Go.Ds
