import Derived.Test.YtfngcejaphhmmaaMM
import Derived.Test.YtfngcejaphhmmaaM15
namespace Go.Ds
def dueT (S : List Task) (t k : Nat) : Int := (t : Int) / (gT S k).P * (gT S k).P + (gT S k).D
def refill (S : List Task) (lf : List Int) (t : Nat) : List Int := (List.range S.length).map fun (k : Nat) => if (t : Int) % (gT S k).P = 0 then (gT S k).C else gI lf k
def tabPick (S : List Task) (lr : List Int) (t : Nat) : Int := bestF S.length (fun k => decide (0 < gI lr k)) (dueT S t)
def tabRun (S : List Task) (lr : List Int) (b : Int) : List Int := if b < 0 then lr else lr.set b.toNat (gI lr b.toNat - 1)
def tabLf (S : List Task) : Nat → List Int
  | 0 => List.replicate S.length 0
  | t + 1 => tabRun S (refill S (tabLf S t) t) (tabPick S (refill S (tabLf S t) t) t)
def tabLr (S : List Task) (t : Nat) : List Int := refill S (tabLf S t) t
def tabAt (S : List Task) (t : Nat) : Int := tabPick S (tabLr S t) t
section
variable {S : List Task}
theorem refill_len (lf : List Int) (t : Nat) : (refill S lf t).length = S.length := by simp [refill]
theorem lr_get {t k : Nat} (hk : k < S.length) : gI (tabLr S t) k = if (t : Int) % (gT S k).P = 0 then (gT S k).C else gI (tabLf S t) k := by
  have h : k < (tabLr S t).length := by rw [tabLr, refill_len]; exact hk
  rw [show gI (tabLr S t) k = (tabLr S t)[k] by simp [gI, List.getD_eq_getElem?_getD, h]]
  simp [tabLr, refill]
theorem tab_pick (t : Nat) : (tabAt S t = -1 ∧ ∀ k, k < S.length → gI (tabLr S t) k ≤ 0) ∨ ∃ b : Nat, b < S.length ∧ tabAt S t = b ∧ 0 < gI (tabLr S t) b ∧ ∀ k, k < S.length → 0 < gI (tabLr S t) k → dueT S t b ≤ dueT S t k := by
  rcases bestF_spec (fun k => decide (0 < gI (tabLr S t) k)) (dueT S t) S.length with ⟨e, h⟩ | ⟨b, e, hb, h1, h2, _⟩
  · refine .inl ⟨e, fun k hk => ?_⟩
    have := of_decide_eq_false (h k hk)
    omega
  · exact .inr ⟨b, hb, e, of_decide_eq_true h1, fun k hk hp => h2 k hk (decide_eq_true hp)⟩
theorem lf_succ {t k : Nat} (_hk : k < S.length) : gI (tabLf S (t + 1)) k = gI (tabLr S t) k - if tabAt S t = (k : Int) then 1 else 0 := by
  have e : tabLf S (t + 1) = tabRun S (tabLr S t) (tabAt S t) := rfl
  rw [e]
  unfold tabRun
  rcases tab_pick (S := S) t with ⟨e2, _⟩ | ⟨b, hb, e2, _⟩
  · rw [e2, if_pos (by decide), if_neg (by omega)]; omega
  · rw [e2, if_neg (by omega), Int.toNat_natCast, gI_set (by rw [tabLr, refill_len]; exact hb)]
    by_cases h : b = k
    · subst h; rw [if_pos rfl, if_pos rfl]
    · rw [if_neg h, if_neg (by omega)]; omega
theorem gT_okN (hS : setOk S) {k : Nat} (hk : k < S.length) : (gT S k).ok := gT_ok hS (by omega) (by omega)
theorem lf_bound (hS : setOk S) {k : Nat} (hk : k < S.length) : ∀ t : Nat, 0 ≤ gI (tabLf S t) k ∧ gI (tabLf S t) k ≤ (gT S k).C
  | 0 => by
    have := gT_okN hS hk
    unfold Task.ok at this
    rw [show gI (tabLf S 0) k = 0 from gI_rep _ _ _ hk]; omega
  | t + 1 => by
    have ih := lf_bound hS hk t
    have hx := gT_okN hS hk
    unfold Task.ok at hx
    have hr := lr_get (S := S) (t := t) hk
    have hrb : 0 ≤ gI (tabLr S t) k ∧ gI (tabLr S t) k ≤ (gT S k).C := by rw [hr]; split <;> omega
    rw [lf_succ hk]
    rcases tab_pick (S := S) t with ⟨e2, _⟩ | ⟨b, hb, e2, h2, _⟩
    · rw [if_neg (by omega)]; omega
    · by_cases h : b = k
      · subst h; rw [if_pos e2]; omega
      · rw [if_neg (by omega)]; omega
theorem lr_bound (hS : setOk S) {k : Nat} (hk : k < S.length) (t : Nat) : 0 ≤ gI (tabLr S t) k ∧ gI (tabLr S t) k ≤ (gT S k).C := by
  have ih := lf_bound hS hk t
  have hx := gT_okN hS hk
  unfold Task.ok at hx
  rw [lr_get hk]; split <;> omega
theorem lr_mono (hS : setOk S) {k : Nat} (hk : k < S.length) {u : Nat} : ∀ m : Nat, (((u + m : Nat) : Int) / (gT S k).P = (u : Int) / (gT S k).P) → gI (tabLr S (u + m)) k ≤ gI (tabLr S u) k
  | 0, _ => Int.le_refl _
  | m + 1, h => by
    have hx := gT_okN hS hk
    unfold Task.ok at hx
    have hP : 0 < (gT S k).P := by omega
    have h1 : ((u + m : Nat) : Int) / (gT S k).P = (u : Int) / (gT S k).P := by
      have a1 : (u : Int) / (gT S k).P ≤ ((u + m : Nat) : Int) / (gT S k).P := Int.ediv_le_ediv hP (by omega)
      have a2 : ((u + m : Nat) : Int) / (gT S k).P ≤ ((u + (m + 1) : Nat) : Int) / (gT S k).P := Int.ediv_le_ediv hP (by omega)
      omega
    have ih := lr_mono hS hk m h1
    have hne : ((u + (m + 1) : Nat) : Int) % (gT S k).P ≠ 0 := by
      intro h0
      have e1 := Int.emod_add_mul_ediv ((u + (m + 1) : Nat) : Int) (gT S k).P
      have e2 := Int.emod_add_mul_ediv ((u + m : Nat) : Int) (gT S k).P
      have e3 := Int.emod_nonneg ((u + m : Nat) : Int) (show (gT S k).P ≠ 0 by omega)
      rw [h0, h] at e1
      rw [h1] at e2
      omega
    rw [lr_get hk, if_neg hne, ← Nat.add_assoc, lf_succ hk]
    split <;> omega
def cntR (P D : Int) (t0 d : Nat) (m : Nat) : Int := sumI (fun i => if ((t0 + i : Nat) : Int) % P = 0 ∧ ((t0 + i : Nat) : Int) + D ≤ d then 1 else 0) m
theorem cntR_last {P D : Int} (hP : 1 ≤ P) {t0 d : Nat} : ∀ m : Nat, cntR P D t0 d m = 0 ∨ (1 ≤ cntR P D t0 d m ∧ ∃ i : Nat, i < m ∧ ((t0 + i : Nat) : Int) % P = 0 ∧ ((t0 + i : Nat) : Int) + D ≤ d ∧ (cntR P D t0 d m - 1) * P ≤ i)
  | 0 => .inl rfl
  | m + 1 => by
    have ih := cntR_last hP (D := D) (t0 := t0) (d := d) m
    have e : cntR P D t0 d (m + 1) = cntR P D t0 d m + if ((t0 + m : Nat) : Int) % P = 0 ∧ ((t0 + m : Nat) : Int) + D ≤ d then 1 else 0 := rfl
    rw [e]
    by_cases hc : ((t0 + m : Nat) : Int) % P = 0 ∧ ((t0 + m : Nat) : Int) + D ≤ d
    · rw [if_pos hc]
      rcases ih with h0 | ⟨h1, i, hi, h2, h3, h4⟩
      · refine .inr ⟨by omega, m, by omega, hc.1, hc.2, ?_⟩
        rw [h0]; simp
      · refine .inr ⟨by omega, m, by omega, hc.1, hc.2, ?_⟩
        have hd : P ∣ ((m : Int) - i) := by
          have d1 := Int.dvd_of_emod_eq_zero hc.1
          have d2 := Int.dvd_of_emod_eq_zero h2
          have := Int.dvd_sub d1 d2
          rwa [show ((t0 + m : Nat) : Int) - ((t0 + i : Nat) : Int) = (m : Int) - i by omega] at this
        have hle := Int.le_of_dvd (by omega) hd
        rw [Int.sub_mul, Int.one_mul] at h4
        rw [show cntR P D t0 d m + 1 - 1 = cntR P D t0 d m by omega]
        omega
    · rw [if_neg hc, Int.add_zero]
      rcases ih with h0 | ⟨h1, i, hi, h2, h3, h4⟩
      · exact .inl h0
      · exact .inr ⟨h1, i, by omega, h2, h3, h4⟩
theorem cntR_le {x : Task} (hx : x.ok) {t0 d m : Nat} (_h : t0 ≤ d) : cntR x.P x.D t0 d m * x.C ≤ dbf1 x ((d : Int) - t0) := by
  unfold Task.ok at hx
  unfold dbf1
  rcases cntR_last (P := x.P) (D := x.D) (by omega) (t0 := t0) (d := d) m with h0 | ⟨h1, i, hi, h2, h3, h4⟩
  · rw [h0, Int.zero_mul]
    split
    · have : 0 ≤ ((d : Int) - t0 - x.D) / x.P := Int.ediv_nonneg (by omega) (by omega)
      exact Int.mul_nonneg (by omega) (by omega)
    · exact Int.le_refl _
  · rw [if_pos (by omega)]
    refine Int.mul_le_mul_of_nonneg_right ?_ (by omega)
    have : cntR x.P x.D t0 d m - 1 ≤ ((d : Int) - t0 - x.D) / x.P := by
      rw [Int.le_ediv_iff_mul_le (by omega)]
      omega
    omega
end
end Go.Ds
