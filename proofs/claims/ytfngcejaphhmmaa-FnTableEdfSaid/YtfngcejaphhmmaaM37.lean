import Derived.Test.YtfngcejaphhmmaaM36
namespace Go.Ds
theorem win_lf {S : List Task} (hS : setOk S) {i r : Nat} (hi : i < S.length) (hr : (r : Int) % (gT S i).P = 0) : ∀ m : Nat, 1 ≤ m → (m : Int) ≤ (gT S i).P → gI (tabLf S (r + m)) i = (gT S i).C - cntK S r i m
  | 0, h, _ => absurd h (by omega)
  | m + 1, _, hm => by
    have hx := gT_okN hS hi
    unfold Task.ok at hx
    have e0 : cntK S r i (m + 1) = cntK S r i m + if tabAt S (r + m) = (i : Int) then 1 else 0 := rfl
    rw [e0, ← Nat.add_assoc, lf_succ hi]
    rcases Nat.eq_zero_or_pos m with rfl | h0
    · have e1 : cntK S r i 0 = 0 := rfl
      rw [e1, lr_get hi, if_pos (by simpa using hr)]; omega
    · have ih := win_lf hS hi hr m h0 (by omega)
      have hne : ((r + m : Nat) : Int) % (gT S i).P ≠ 0 := by
        intro h
        have d1 := Int.dvd_of_emod_eq_zero h
        have d2 := Int.dvd_of_emod_eq_zero hr
        have d3 := Int.dvd_sub d1 d2
        rw [show ((r + m : Nat) : Int) - (r : Int) = (m : Int) by omega] at d3
        have := Int.le_of_dvd (by omega) d3
        omega
      rw [lr_get hi, if_neg hne, ih]; omega
theorem cntK_mono {S : List Task} {r i : Nat} : ∀ a b : Nat, cntK S r i a ≤ cntK S r i (a + b)
  | a, 0 => Int.le_refl _
  | a, b + 1 => by
    have ih := cntK_mono (S := S) (r := r) (i := i) a b
    have e0 : cntK S r i (a + b + 1) = cntK S r i (a + b) + if tabAt S (r + (a + b)) = (i : Int) then 1 else 0 := rfl
    rw [← Nat.add_assoc, e0]
    split <;> omega
theorem win_cnt {S : List Task} (hS : setOk S) (hf : ∀ t : Nat, dbf S t ≤ t) {i r : Nat} (hi : i < S.length) (hr : (r : Int) % (gT S i).P = 0) {m : Nat} (h1 : (gT S i).D ≤ m) (h2 : (m : Int) ≤ (gT S i).P) : cntK S r i m = (gT S i).C := by
  have hx := gT_okN hS hi
  unfold Task.ok at hx
  obtain ⟨D, hD⟩ := Int.eq_ofNat_of_zero_le (show 0 ≤ (gT S i).D by omega)
  have hz := tab_safe hS hf (d := r + D) hi (by omega) (by rw [show ((r + D : Nat) : Int) - (gT S i).D = (r : Int) by omega]; exact hr)
  rw [win_lf hS hi hr D (by omega) (by omega)] at hz
  have hb := lf_bound hS hi (r + m)
  rw [win_lf hS hi hr m (by omega) h2] at hb
  have hmn := cntK_mono (S := S) (r := r) (i := i) D (m - D)
  rw [show D + (m - D) = m by omega] at hmn
  omega
theorem tabAt_range {S : List Task} (t : Nat) : -1 ≤ tabAt S t ∧ tabAt S t < S.length := by
  rcases tab_pick (S := S) t with ⟨e, _⟩ | ⟨b, hb, e, _⟩ <;> omega
def tabL (S : List Task) (n : Nat) : List Int := (List.range n).map fun t => tabAt S t
theorem tabL_len (S : List Task) (n : Nat) : (tabL S n).length = n := by simp [tabL]
theorem tabL_get {S : List Task} {n k : Nat} (h : k < (tabL S n).length) : (tabL S n)[k] = tabAt S k := by simp [tabL]
theorem tabL_succ (S : List Task) (n : Nat) : tabL S (n + 1) = tabL S n ++ [tabAt S n] := by simp [tabL, List.range_succ]
end Go.Ds
