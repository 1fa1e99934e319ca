import Derived.Test.YtfngcejaphhmmaaM50
namespace Go.Ds
section
theorem five_pos : ∀ n : Nat, (1 : Int) ≤ 5 ^ n
  | 0 => by decide
  | n + 1 => by have := five_pos n; rw [Int.pow_succ]; omega
variable {P : List Nd}
theorem cst_bnd (w : Bool) (h : nodesOk P) : ∀ n : Nat, ∀ i : Nat, i < n → i < P.length → 0 ≤ cstA w P i ∧ cstA w P i ≤ 45 * 5 ^ n
  | 0, i, hi, _ => absurd hi (by omega)
  | n + 1, i, hi, hP => by
    have h1 : (1 : Int) ≤ 5 ^ n := five_pos n
    have h5 : (5 : Int) ^ (n + 1) = 5 ^ n * 5 := Int.pow_succ 5 n
    have hz : 0 ≤ cstA w P i ∧ cstA w P i ≤ 45 * (5 ^ n * 5) := by
      have ih := fun j : Nat => fun hj : j < n => fun hq : j < P.length => cst_bnd w h n j hj hq
      generalize (5 : Int) ^ n = X at *
      rcases Nat.lt_succ_iff_lt_or_eq.1 hi with h2 | h2
      · have := ih i h2 hP
        omega
      · subst h2
        have ho := h i hP
        rw [cstA_eq]
        have kid : ∀ a : Int, 0 ≤ a → a ≤ (i : Int) - 1 → 0 ≤ gI (costs w P i) a ∧ gI (costs w P i) a ≤ 45 * X := fun a a0 a1 => by
          have := costs_at w P (show a.toNat < i by omega)
          rw [show ((a.toNat : Nat) : Int) = a by omega] at this
          rw [this]
          exact ih a.toNat (by omega) (by omega)
        unfold ndOk at ho
        unfold ndCost
        rcases ho with ho | ho | ho | ho
        · rw [if_neg (by omega), if_neg (by omega), if_neg (by omega)]; omega
        · have a := kid _ ho.2.2.1.1 ho.2.2.1.2
          have b := kid _ ho.2.2.2.1.1 ho.2.2.2.1.2
          rw [if_pos ho.1]; omega
        · have a := kid _ ho.2.2.1.1 ho.2.2.1.2
          have b := kid _ ho.2.2.2.1.1 ho.2.2.2.1.2
          rw [if_neg (by omega), if_pos ho.1]
          split <;> split <;> omega
        · have a := kid _ ho.2.2.1.1 ho.2.2.1.2
          have hb := ho.2.2.2.2
          have hC := ho.2.1
          rw [if_neg (by omega), if_neg (by omega), if_pos ho.1]
          split
          · have hbb : (gN P i).Bd = 0 ∨ (gN P i).Bd = 1 ∨ (gN P i).Bd = 2 ∨ (gN P i).Bd = 3 ∨ (gN P i).Bd = 4 := by omega
            generalize gI (costs w P i) (gN P i).A = x at *
            generalize (gN P i).C = z at *
            rcases hbb with g | g | g | g | g <;> rw [g] <;> omega
          · omega
    rw [h5]; exact hz
theorem costs_big (w : Bool) (h : nodesOk P) (hl : P.length ≤ 12) {k : Nat} (hk : k ≤ P.length) {a : Int} (h0 : 0 ≤ a) (h1 : a ≤ (k : Int) - 1) : 0 ≤ gI (costs w P k) a ∧ gI (costs w P k) a ≤ 10986328125 := by
  have := costs_at w P (show a.toNat < k by omega)
  rw [show ((a.toNat : Nat) : Int) = a by omega] at this
  rw [this]
  exact cst_bnd w h 12 a.toNat (by omega) (by omega)
theorem best_le (h : nodesOk P) : ∀ n k : Nat, k < n → k < P.length → cstA false P k ≤ cstA true P k
  | 0, k, hk, _ => absurd hk (by omega)
  | n + 1, k, hk, hP => by
    have ho := h k hP
    have ho' := ho
    unfold ndOk at ho
    rcases ho with h1 | h2 | h3 | h4
    · rw [cost_one _ h1.1, cost_one _ h1.1]; omega
    · obtain ⟨e, hA, hB⟩ := cost_two true ho' h2.1
      obtain ⟨e', _, _⟩ := cost_two false ho' h2.1
      have := best_le h n (gN P k).A.toNat (by omega) (by omega)
      have := best_le h n (gN P k).B.toNat (by omega) (by omega)
      omega
    · obtain ⟨e, hA, hB, hC⟩ := cost_three ho' h3.1
      have a := best_le h n (gN P k).A.toNat (by omega) (by omega)
      have b := best_le h n (gN P k).B.toNat (by omega) (by omega)
      have ea := costs_at false P hA
      have eb := costs_at false P hB
      rw [show (((gN P k).A.toNat : Nat) : Int) = (gN P k).A by omega] at ea
      rw [show (((gN P k).B.toNat : Nat) : Int) = (gN P k).B by omega] at eb
      have e' : cstA false P k = (gN P k).C + (if cstA false P (gN P k).B.toNat < cstA false P (gN P k).A.toNat then cstA false P (gN P k).B.toNat else cstA false P (gN P k).A.toNat) := by
        rw [cstA_eq, ← ea, ← eb]; simp [ndCost, h3.1]
      rw [e, e']
      split <;> split <;> omega
    · obtain ⟨e, hA, hC, hb0, hb1⟩ := cost_four ho' h4.1
      have := cost_pos h (gN P k).A.toNat (gN P k).A.toNat (Nat.le_refl _) (by omega)
      have e' : cstA false P k = (gN P k).C := by rw [cstA_eq]; simp [ndCost, h4.1]
      have : 0 ≤ (gN P k).Bd * ((gN P k).C + cstA true P (gN P k).A.toNat) := Int.mul_nonneg hb0 (by omega)
      omega
def cpad (w : Bool) (P : List Nd) (n k : Nat) : List Int := costs w P k ++ List.replicate (n - k) 0
theorem cpad_zero (w : Bool) (P : List Nd) (n : Nat) : cpad w P n 0 = List.replicate n 0 := by simp [cpad, costs]
theorem cpad_all (w : Bool) (P : List Nd) (n : Nat) : cpad w P n n = costs w P n := by simp [cpad]
theorem cpad_len (w : Bool) (P : List Nd) {n k : Nat} (h : k ≤ n) : (cpad w P n k).length = n := by simp [cpad, costs_len]; omega
theorem cpad_get (w : Bool) (P : List Nd) {n k : Nat} {a : Int} (h0 : 0 ≤ a) (h1 : a ≤ (k : Int) - 1) (h : a.toNat < (cpad w P n k).length) : (cpad w P n k)[a.toNat] = gI (costs w P k) a := by
  have hl := costs_len w P k
  have e : (cpad w P n k)[a.toNat] = (costs w P k)[a.toNat]'(by omega) := List.getElem_append_left (by omega)
  rw [e]
  simp [gI, List.getD_eq_getElem?_getD, show a.toNat < (costs w P k).length by omega]
theorem cpad_set (w : Bool) (P : List Nd) {n k : Nat} (h : k < n) : (cpad w P n k).set k (ndCost w (gN P k) (costs w P k)) = cpad w P n (k + 1) := by
  unfold cpad
  rw [List.set_append_right _ _ (by rw [costs_len]; omega), costs_len, Nat.sub_self, show n - k = (n - (k + 1)) + 1 by omega, List.replicate_succ, List.set_cons_zero, costs, List.append_assoc]
  rfl
end
end Go.Ds
