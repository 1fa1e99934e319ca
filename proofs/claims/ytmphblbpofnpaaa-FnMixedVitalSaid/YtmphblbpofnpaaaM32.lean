import Derived.Test.YtmphblbpofnpaaaM31
namespace Go.Ds
set_option maxRecDepth 20000
section
variable {S : List MTask} {nu de : Int} {L : List Job}
theorem mixFin_q : mixFin S nu de L = (simU L (mixQ S nu de L) 120).fin := (sim_q (L := L) (pick := mixPick S nu de L) (s0 := mix0) 120).2.2
theorem vit_full (h : mixLegal S L) (ok : ScaleOk S nu de) {a d : Nat} (had : a ≤ d) (hrun : ∀ u, a ≤ u → u < d → ∃ n : Nat, n < L.length ∧ pkM S nu de L u = n ∧ vitJ S L n = true ∧ (L.getD n default).D ≤ d ∧ (a : Int) ≤ (L.getD n default).R)
    {j : Nat} (hj : j < L.length) (hv : vitJ S L j = true) (hD : (L.getD j default).D ≤ d) (hR : (a : Int) ≤ (L.getD j default).R) (hun : dnM S nu de L d j < (L.getD j default).E) : False := by
  have hpos := ok.pos
  have hw := busy_work (S := S) (nu := nu) (de := de) (L := L) (P := fun i => decide (vitJ S L i = true ∧ (L.getD i default).D ≤ d ∧ (a : Int) ≤ (L.getD i default).R)) had (fun u h1 h2 => by
    obtain ⟨n, hn, e, h3⟩ := hrun u h1 h2
    exact ⟨n, hn, e, decide_eq_true h3⟩)
  have h0 : work (fun i => decide (vitJ S L i = true ∧ (L.getD i default).D ≤ d ∧ (a : Int) ≤ (L.getD i default).R)) (dnM S nu de L a) L.length = 0 := sumI_zero fun i hi => by
    split
    · rename_i hwi
      exact dn_zero hi (of_decide_eq_true hwi).2.2
    · rfl
  rw [h0, Int.zero_add] at hw
  have cast : ∀ i, i < L.length → (((L.getD i default).T.toNat : Nat) : Int) = (L.getD i default).T := fun i hi => Int.toNat_of_nonneg (h.at hi).1.1
  have h1 := work_task_lt h (P := fun i => decide (vitJ S L i = true ∧ (L.getD i default).D ≤ d ∧ (a : Int) ≤ (L.getD i default).R)) (f := dnM S nu de L d) (B := fun k => (gM S k).Hi) (fun i hi _ => by
    rw [cast i hi]
    exact Int.le_trans (dn_le h hi d) (h.at hi).2.2.1.2) hj (decide_eq_true ⟨hv, hD, hR⟩) (by
    rw [cast j hj]
    exact Int.lt_of_lt_of_le hun (h.at hj).2.2.1.2)
  rw [hw] at h1
  have hz : 0 ≤ ((d : Int) - a) * nu := Int.mul_nonneg (by omega) (by omega)
  have hd := demand h.1 ok (X := 0) (Z := ((d : Int) - a) * nu) (Int.le_refl _) hz (F := fun k => cntQ L k (fun i => decide (vitJ S L i = true ∧ (L.getD i default).D ≤ d ∧ (a : Int) ≤ (L.getD i default).R)) * (gM S k).Hi) ?_ ?_
  · rw [Int.zero_mul, Int.zero_add, Int.mul_assoc] at hd
    have := Int.le_of_mul_le_mul_right hd (Int.mul_pos hpos.1 (by omega))
    omega
  · intro k hk hV
    have hok := gM_ok h.1 (show (0 : Int) ≤ k by omega) (show (k : Int) < S.length by omega)
    unfold MTask.ok at hok
    generalize hc : cntQ L k (fun i => decide (vitJ S L i = true ∧ (L.getD i default).D ≤ d ∧ (a : Int) ≤ (L.getD i default).R)) = c
    have key : c * (gM S k).P ≤ (d : Int) - a := by
      have := cntQ_win h (k := k) ⟨by omega, by omega⟩ (Q := fun i => decide (vitJ S L i = true ∧ (L.getD i default).D ≤ d ∧ (a : Int) ≤ (L.getD i default).R)) (lo := a) (hi := d - (gM S k).P) (fun i hi hT hQ => by
        have h5 := of_decide_eq_true hQ
        have h6 := (h.at hi).2.2.2.1
        rw [hT] at h6
        omega)
      rw [hc] at this
      rcases this with h0 | ⟨_, _, h3⟩
      · rw [h0, Int.zero_mul]; omega
      · rw [Int.sub_mul, Int.one_mul] at h3; omega
    have h7 := Int.mul_le_mul_of_nonneg_right key (show 0 ≤ nu * de * (gM S k).Hi from Int.mul_nonneg (Int.mul_nonneg (by omega) (by omega)) (by omega))
    rw [Int.zero_mul, Int.zero_add]
    have e1 : c * (gM S k).Hi * (gM S k).P * (nu * de) = c * (gM S k).P * (nu * de * (gM S k).Hi) := by simp only [Int.mul_assoc, Int.mul_comm, Int.mul_left_comm]
    have e2 : de * (((d : Int) - a) * nu * (gM S k).Hi) = ((d : Int) - a) * (nu * de * (gM S k).Hi) := by simp only [Int.mul_assoc, Int.mul_comm, Int.mul_left_comm]
    rw [e1, e2]; exact h7
  · intro k hk hV
    have hok := gM_ok h.1 (show (0 : Int) ≤ k by omega) (show (k : Int) < S.length by omega)
    unfold MTask.ok at hok
    have hc : cntQ L k (fun i => decide (vitJ S L i = true ∧ (L.getD i default).D ≤ d ∧ (a : Int) ≤ (L.getD i default).R)) = 0 := sumI_zero fun i hi => by
      rw [if_neg]
      rintro ⟨h5, h6⟩
      have := (of_decide_eq_true h6).1
      unfold vitJ at this
      rw [h5, hV] at this
      cases this
    rw [hc, Int.zero_mul, Int.zero_mul, Int.zero_mul]
    exact Int.mul_nonneg (by omega) (Int.mul_nonneg (by omega) (by omega))
end
end Go.Ds
