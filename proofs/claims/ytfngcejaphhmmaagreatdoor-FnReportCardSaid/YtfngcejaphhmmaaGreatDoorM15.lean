import Derived.Test.YtfngcejaphhmmaaGreatDoorMM
namespace Go.Ds
def hyperN (S : List Task) : Nat := S.foldl (fun h x => Nat.lcm h x.P.toNat) 1
theorem hyperN_snoc (S : List Task) (x : Task) : hyperN (S ++ [x]) = Nat.lcm (hyperN S) x.P.toNat := by unfold hyperN; rw [List.foldl_append]; rfl
theorem hyperN_take {S : List Task} {k : Nat} (h : k < S.length) : hyperN (S.take (k + 1)) = Nat.lcm (hyperN (S.take k)) S[k].P.toNat := by rw [List.take_succ_eq_append_getElem h, hyperN_snoc]
theorem period_dvd : ∀ p : Nat, p ≤ 12 → 1 ≤ p → p ∣ 27720 := by decide
theorem hyperN_dvd {S : List Task} (hS : setOk S) : ∀ k, k ≤ S.length → hyperN (S.take k) ∣ 27720 ∧ ∀ i (hi : i < S.length), i < k → S[i].P.toNat ∣ hyperN (S.take k)
  | 0, _ => ⟨by simp [hyperN], fun _ _ h => absurd h (by omega)⟩
  | k + 1, h => by
    obtain ⟨h1, h2⟩ := hyperN_dvd hS k (by omega)
    rw [hyperN_take (show k < S.length by omega)]
    have hk := hS.2 _ (List.getElem_mem (show k < S.length by omega))
    unfold Task.ok at hk
    refine ⟨Nat.lcm_dvd h1 (period_dvd _ (by omega) (by omega)), fun i hi hik => ?_⟩
    rcases Nat.lt_succ_iff_lt_or_eq.1 hik with h3 | h3
    · exact Nat.dvd_trans (h2 i hi h3) (Nat.dvd_lcm_left _ _)
    · subst h3; exact Nat.dvd_lcm_right _ _
theorem hyperN_bound {S : List Task} (hS : setOk S) {k : Nat} (h : k ≤ S.length) : 1 ≤ hyperN (S.take k) ∧ hyperN (S.take k) ≤ 27720 := by
  have h1 := (hyperN_dvd hS k h).1
  exact ⟨Nat.pos_of_dvd_of_pos h1 (by decide), Nat.le_of_dvd (by decide) h1⟩
def feas (S : List Task) : Prop := setOk S ∧ ∀ t : Int, 1 ≤ t → t ≤ hyperN S → dbf S t ≤ t
noncomputable instance (S : List Task) : Decidable (feas S) := Classical.propDecidable _
def FovP (S : List Task) (r : Int) : Prop := (r = -1 ∧ ∀ t : Int, 1 ≤ t → t ≤ hyperN S → dbf S t ≤ t) ∨ (1 ≤ r ∧ r ≤ hyperN S ∧ r < dbf S r ∧ ∀ t : Int, 1 ≤ t → t < r → dbf S t ≤ t)
theorem FovP.same {S : List Task} {r r' : Int} (h : FovP S r) (h' : FovP S r') : r = r' := by
  rcases h with ⟨h1, h2⟩ | ⟨h1, h2, h3, h4⟩ <;> rcases h' with ⟨g1, g2⟩ | ⟨g1, g2, g3, g4⟩
  · omega
  · have := h2 r' g1 g2; omega
  · have := g2 r h1 h2; omega
  · rcases Int.lt_trichotomy r r' with h | h | h
    · have := g4 r h1 h; omega
    · exact h
    · have := h4 r' g1 h; omega
theorem gcd_step (a b : Nat) : Nat.gcd b (a % b) = Nat.gcd a b := by rw [Nat.gcd_comm, ← Nat.gcd_rec, Nat.gcd_comm]
end Go.Ds
