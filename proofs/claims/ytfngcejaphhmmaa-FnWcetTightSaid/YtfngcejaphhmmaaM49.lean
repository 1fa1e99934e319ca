import Derived.Test.YtfngcejaphhmmaaMM
namespace Go.Ds
/-- A node of a program. -/
structure Nd where
  K : Int
  C : Int
  A : Int
  B : Int
  Bd : Int
  deriving Inhabited, DecidableEq
def ndOk (n : Nd) (k : Nat) : Prop :=
  (n.K = 1 ∧ (1 ≤ n.C ∧ n.C ≤ 9) ∧ n.A = 0 ∧ n.B = 0 ∧ n.Bd = 0) ∨ (n.K = 2 ∧ n.C = 0 ∧ (0 ≤ n.A ∧ n.A ≤ (k : Int) - 1) ∧ (0 ≤ n.B ∧ n.B ≤ (k : Int) - 1) ∧ n.Bd = 0) ∨
  (n.K = 3 ∧ (1 ≤ n.C ∧ n.C ≤ 9) ∧ (0 ≤ n.A ∧ n.A ≤ (k : Int) - 1) ∧ (0 ≤ n.B ∧ n.B ≤ (k : Int) - 1) ∧ n.Bd = 0) ∨ (n.K = 4 ∧ (1 ≤ n.C ∧ n.C ≤ 9) ∧ (0 ≤ n.A ∧ n.A ≤ (k : Int) - 1) ∧ n.B = 0 ∧ (0 ≤ n.Bd ∧ n.Bd ≤ 4))
instance (n : Nd) (k : Nat) : Decidable (ndOk n k) := by unfold ndOk; infer_instance
def gN (P : List Nd) (k : Nat) : Nd := P.getD k default
def ndCost (worst : Bool) (n : Nd) (l : List Int) : Int :=
  if n.K = 2 then gI l n.A + gI l n.B
  else if n.K = 3 then n.C + (if worst then (if gI l n.A < gI l n.B then gI l n.B else gI l n.A) else (if gI l n.B < gI l n.A then gI l n.B else gI l n.A))
  else if n.K = 4 then (if worst then n.C + n.Bd * (n.C + gI l n.A) else n.C) else n.C
def costs (worst : Bool) (P : List Nd) : Nat → List Int
  | 0 => []
  | k + 1 => costs worst P k ++ [ndCost worst (gN P k) (costs worst P k)]
def costsC (worst : Bool) (P : List Nd) : Nat → List Int
  | 0 => []
  | k + 1 => costsC worst P k ++ [if 601 < ndCost worst (gN P k) (costsC worst P k) then 601 else ndCost worst (gN P k) (costsC worst P k)]
def cstA (worst : Bool) (P : List Nd) (k : Nat) : Int := gI (costs worst P (k + 1)) k
def nodesOk (P : List Nd) : Prop := ∀ k, k < P.length → ndOk (gN P k) k
def progOk (P : List Nd) : Prop := (1 ≤ P.length ∧ P.length ≤ 12) ∧ nodesOk P ∧ cstA true P (P.length - 1) ≤ 600
theorem costs_len (w : Bool) (P : List Nd) : ∀ k, (costs w P k).length = k
  | 0 => rfl
  | k + 1 => by simp [costs, costs_len w P k]
theorem costsC_len (w : Bool) (P : List Nd) : ∀ k, (costsC w P k).length = k
  | 0 => rfl
  | k + 1 => by simp [costsC, costsC_len w P k]
theorem gI_app' {l : List Int} {x : Int} {t : Nat} (h : t < l.length) : gI (l ++ [x]) t = gI l t := by
  simp [gI, List.getD_eq_getElem?_getD, List.getElem?_append_left h]
theorem gI_last' (l : List Int) (x : Int) : gI (l ++ [x]) l.length = x := by simp [gI, List.getD_eq_getElem?_getD]
theorem costs_at (w : Bool) (P : List Nd) {i : Nat} : ∀ {k : Nat}, i < k → gI (costs w P k) i = cstA w P i
  | k + 1, h => by
    rcases Nat.lt_succ_iff_lt_or_eq.1 h with h1 | h1
    · rw [costs, gI_app' (by rw [costs_len]; exact h1)]; exact costs_at w P h1
    · subst h1; rfl
theorem cstA_eq (w : Bool) (P : List Nd) (k : Nat) : cstA w P k = ndCost w (gN P k) (costs w P k) := by
  unfold cstA
  rw [costs]
  have := gI_last' (costs w P k) (ndCost w (gN P k) (costs w P k))
  rwa [costs_len] at this
section
variable {P : List Nd}
theorem cost_two (w : Bool) {k : Nat} (ho : ndOk (gN P k) k) (hK : (gN P k).K = 2) : cstA w P k = cstA w P (gN P k).A.toNat + cstA w P (gN P k).B.toNat ∧ (gN P k).A.toNat < k ∧ (gN P k).B.toNat < k := by
  unfold ndOk at ho
  have hA : (gN P k).A.toNat < k := by omega
  have hB : (gN P k).B.toNat < k := by omega
  refine ⟨?_, hA, hB⟩
  rw [cstA_eq, ndCost, if_pos hK, ← costs_at w P hA, ← costs_at w P hB, show (((gN P k).A.toNat : Nat) : Int) = (gN P k).A by omega, show (((gN P k).B.toNat : Nat) : Int) = (gN P k).B by omega]
theorem cost_three {k : Nat} (ho : ndOk (gN P k) k) (hK : (gN P k).K = 3) : cstA true P k = (gN P k).C + (if cstA true P (gN P k).A.toNat < cstA true P (gN P k).B.toNat then cstA true P (gN P k).B.toNat else cstA true P (gN P k).A.toNat) ∧ (gN P k).A.toNat < k ∧ (gN P k).B.toNat < k ∧ 1 ≤ (gN P k).C := by
  unfold ndOk at ho
  have hA : (gN P k).A.toNat < k := by omega
  have hB : (gN P k).B.toNat < k := by omega
  refine ⟨?_, hA, hB, by omega⟩
  rw [cstA_eq, ndCost, if_neg (by omega), if_pos hK, if_pos rfl, ← costs_at true P hA, ← costs_at true P hB, show (((gN P k).A.toNat : Nat) : Int) = (gN P k).A by omega, show (((gN P k).B.toNat : Nat) : Int) = (gN P k).B by omega]
theorem cost_four {k : Nat} (ho : ndOk (gN P k) k) (hK : (gN P k).K = 4) : cstA true P k = (gN P k).C + (gN P k).Bd * ((gN P k).C + cstA true P (gN P k).A.toNat) ∧ (gN P k).A.toNat < k ∧ 1 ≤ (gN P k).C ∧ 0 ≤ (gN P k).Bd ∧ (gN P k).Bd ≤ 4 := by
  unfold ndOk at ho
  have hA : (gN P k).A.toNat < k := by omega
  refine ⟨?_, hA, by omega, by omega, by omega⟩
  rw [cstA_eq, ndCost, if_neg (by omega), if_neg (by omega), if_pos hK, if_pos rfl, ← costs_at true P hA, show (((gN P k).A.toNat : Nat) : Int) = (gN P k).A by omega]
theorem cost_one (w : Bool) {k : Nat} (hK : (gN P k).K = 1) : cstA w P k = (gN P k).C := by
  rw [cstA_eq, ndCost, if_neg (by omega), if_neg (by omega), if_neg (by omega)]
theorem cost_pos (h : nodesOk P) : ∀ (n k : Nat), k ≤ n → k < P.length → 1 ≤ cstA true P k
  | n, k, hn, hk => by
    have ho := h k hk
    have ho' := ho
    unfold ndOk at ho
    rcases ho with h1 | h2 | h3 | h4
    · rw [cost_one true h1.1]; omega
    · obtain ⟨e, hA, hB⟩ := cost_two true ho' h2.1
      match n, hn with
      | 0, hn => omega
      | n + 1, hn =>
        have := cost_pos h n _ (show (gN P k).A.toNat ≤ n by omega) (by omega)
        have := cost_pos h n _ (show (gN P k).B.toNat ≤ n by omega) (by omega)
        omega
    · obtain ⟨e, hA, hB, hC⟩ := cost_three ho' h3.1
      match n, hn with
      | 0, hn => omega
      | n + 1, hn =>
        have := cost_pos h n _ (show (gN P k).A.toNat ≤ n by omega) (by omega)
        have := cost_pos h n _ (show (gN P k).B.toNat ≤ n by omega) (by omega)
        rw [e]; split <;> omega
    · obtain ⟨e, hA, hC, hb0, hb1⟩ := cost_four ho' h4.1
      match n, hn with
      | 0, hn => omega
      | n + 1, hn =>
        have := cost_pos h n _ (show (gN P k).A.toNat ≤ n by omega) (by omega)
        have : 0 ≤ (gN P k).Bd * ((gN P k).C + cstA true P (gN P k).A.toNat) := Int.mul_nonneg hb0 (by omega)
        omega
theorem c6 (x : Int) : (if 601 < x then 601 else x) = min 601 x := by split <;> omega
theorem mx2 (x y : Int) : (if x < y then y else x) = max x y := by split <;> omega
theorem mn2 (x y : Int) : (if y < x then y else x) = min x y := by split <;> omega
theorem costs_cut (w : Bool) (h : nodesOk P) : ∀ k, k ≤ P.length → (∀ i : Nat, i < k → 0 ≤ gI (costs w P k) i) ∧ ∀ i : Nat, i < k → gI (costsC w P k) i = if 601 < gI (costs w P k) i then 601 else gI (costs w P k) i
  | 0, _ => ⟨fun i hi => absurd hi (by omega), fun i hi => absurd hi (by omega)⟩
  | k + 1, hk => by
    obtain ⟨h0, h1⟩ := costs_cut w h k (by omega)
    have ho := h k (by omega)
    have hl := costs_len w P k
    have hc := costsC_len w P k
    have e1 : gI (costs w P (k + 1)) k = ndCost w (gN P k) (costs w P k) := by rw [costs]; have := gI_last' (costs w P k) (ndCost w (gN P k) (costs w P k)); rwa [hl] at this
    have e2 : gI (costsC w P (k + 1)) k = if 601 < ndCost w (gN P k) (costsC w P k) then 601 else ndCost w (gN P k) (costsC w P k) := by rw [costsC]; have := gI_last' (costsC w P k) (if 601 < ndCost w (gN P k) (costsC w P k) then 601 else ndCost w (gN P k) (costsC w P k)); rwa [hc] at this
    have key : 0 ≤ ndCost w (gN P k) (costs w P k) ∧ (if 601 < ndCost w (gN P k) (costsC w P k) then 601 else ndCost w (gN P k) (costsC w P k)) = if 601 < ndCost w (gN P k) (costs w P k) then 601 else ndCost w (gN P k) (costs w P k) := by
      have atA : 0 ≤ (gN P k).A → (gN P k).A ≤ (k : Int) - 1 → 0 ≤ gI (costs w P k) (gN P k).A ∧ gI (costsC w P k) (gN P k).A = if 601 < gI (costs w P k) (gN P k).A then 601 else gI (costs w P k) (gN P k).A := fun a b => by
        have := h0 (gN P k).A.toNat (by omega)
        have := h1 (gN P k).A.toNat (by omega)
        rw [show (((gN P k).A.toNat : Nat) : Int) = (gN P k).A by omega] at *
        exact ⟨by assumption, by assumption⟩
      have atB : 0 ≤ (gN P k).B → (gN P k).B ≤ (k : Int) - 1 → 0 ≤ gI (costs w P k) (gN P k).B ∧ gI (costsC w P k) (gN P k).B = if 601 < gI (costs w P k) (gN P k).B then 601 else gI (costs w P k) (gN P k).B := fun a b => by
        have := h0 (gN P k).B.toNat (by omega)
        have := h1 (gN P k).B.toNat (by omega)
        rw [show (((gN P k).B.toNat : Nat) : Int) = (gN P k).B by omega] at *
        exact ⟨by assumption, by assumption⟩
      unfold ndOk at ho
      unfold ndCost
      rcases ho with ho | ho | ho | ho
      · have n2 : ¬ (gN P k).K = 2 := by omega
        have n3 : ¬ (gN P k).K = 3 := by omega
        have n4 : ¬ (gN P k).K = 4 := by omega
        simp only [n2, n3, n4, if_false]
        exact ⟨by omega, trivial⟩
      · obtain ⟨a1, a2⟩ := atA ho.2.2.1.1 ho.2.2.1.2
        obtain ⟨b1, b2⟩ := atB ho.2.2.2.1.1 ho.2.2.2.1.2
        simp only [ho.1, if_true, a2, b2, c6]
        exact ⟨by omega, by omega⟩
      · have n2 : ¬ (gN P k).K = 2 := by omega
        obtain ⟨a1, a2⟩ := atA ho.2.2.1.1 ho.2.2.1.2
        obtain ⟨b1, b2⟩ := atB ho.2.2.2.1.1 ho.2.2.2.1.2
        have hC := ho.2.1
        have p3 : ((gN P k).K = 3) = True := eq_true ho.1
        simp only [n2, p3, if_true, if_false, a2, b2]
        generalize gI (costs w P k) (gN P k).A = x at *
        generalize gI (costs w P k) (gN P k).B = y at *
        generalize (gN P k).C = z at *
        clear a2 b2 atA atB h0 h1 e1 e2
        cases w
        · simp only [Bool.false_eq_true, if_false, c6, mn2]
          exact ⟨by omega, by omega⟩
        · simp only [if_true, c6, mx2]
          exact ⟨by omega, by omega⟩
      · have n2 : ¬ (gN P k).K = 2 := by omega
        have n3 : ¬ (gN P k).K = 3 := by omega
        obtain ⟨a1, a2⟩ := atA ho.2.2.1.1 ho.2.2.1.2
        have hC := ho.2.1
        have hb := ho.2.2.2.2
        have hbb : (gN P k).Bd = 0 ∨ (gN P k).Bd = 1 ∨ (gN P k).Bd = 2 ∨ (gN P k).Bd = 3 ∨ (gN P k).Bd = 4 := by omega
        have p4 : ((gN P k).K = 4) = True := eq_true ho.1
        simp only [n2, n3, p4, if_true, if_false, a2]
        generalize gI (costs w P k) (gN P k).A = x at *
        generalize (gN P k).C = z at *
        clear a2 atA atB h0 h1 e1 e2
        cases w
        · simp only [Bool.false_eq_true, if_false]
          exact ⟨by omega, trivial⟩
        · simp only [if_true, c6]
          rcases hbb with g | g | g | g | g <;> rw [g]
          · rw [Int.zero_mul, Int.zero_mul]; exact ⟨by omega, rfl⟩
          · exact ⟨by omega, by omega⟩
          · exact ⟨by omega, by omega⟩
          · exact ⟨by omega, by omega⟩
          · exact ⟨by omega, by omega⟩
    refine ⟨fun i hi => ?_, fun i hi => ?_⟩
    · rcases Nat.lt_succ_iff_lt_or_eq.1 hi with h2 | h2
      · rw [costs, gI_app' (by omega)]; exact h0 i h2
      · subst h2; rw [e1]; exact key.1
    · rcases Nat.lt_succ_iff_lt_or_eq.1 hi with h2 | h2
      · rw [costs, costsC, gI_app' (by omega), gI_app' (by omega)]; exact h1 i h2
      · subst h2; rw [e1, e2]; exact key.2
end
end Go.Ds
