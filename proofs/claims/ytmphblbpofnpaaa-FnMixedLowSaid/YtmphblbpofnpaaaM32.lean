import Derived.Test.YtmphblbpofnpaaaM31
namespace Go.Ds
set_option maxRecDepth 20000
section
variable {S : List MTask} {nu de : Int} {L : List Job}
theorem mixFin_q : mixFin S nu de L = (simU L (mixQ S nu de L) 120).fin := (sim_q (L := L) (pick := mixPick S nu de L) (s0 := mix0) 120).2.2
theorem low_over (hlow : ∀ j ∈ L, j.E ≤ (gM S j.T).Lo) (done : List Int) (k : Nat) : ¬ overJ S L done (mixPick S nu de L (mixS S nu de L k).st k (mixS S nu de L k).done).1 := by
  rintro ⟨h0, _, h1, h2⟩
  rcases pick_fairM S nu de L (mixS S nu de L k).st k (mixS S nu de L k).done with e | ⟨n, e, hn, _⟩
  · omega
  · rw [e, Int.toNat_natCast] at h1 h2
    have := hlow _ (getD_mem hn)
    omega
theorem low_st (hlow : ∀ j ∈ L, j.E ≤ (gM S j.T).Lo) : ∀ k : Nat, (mixS S nu de L k).st = mix0
  | 0 => rfl
  | k + 1 => by
    have ih := low_st hlow k
    have ho := low_over (nu := nu) (de := de) hlow (mixS S nu de L k).done k
    rw [show (mixS S nu de L (k + 1)).st = (mixPick S nu de L (mixS S nu de L k).st k (mixS S nu de L k).done).2 from sim_st k]
    rw [ih] at ho ⊢
    unfold mixPick at ho ⊢
    rw [if_neg (fun h => by have := h.1; simp [mix0] at this)] at ho ⊢
    split at ho
    · rename_i h1; exact absurd h1 ho
    · rename_i h1
      rw [if_neg h1]
      rfl
theorem low_seg (hlow : ∀ j ∈ L, j.E ≤ (gM S j.T).Lo) (hR : ∀ i, i < L.length → 0 ≤ (L.getD i default).R) (k : Nat) : Seg S nu de L 0 k := by
  refine ⟨Nat.zero_le _, fun t _ _ => ?_, fun i hi _ hlt => by have := hR i hi; omega⟩
  have hb : backAt S nu de L t = mix0 := by
    unfold backAt stBack
    rw [low_st hlow t, if_neg (fun h => by have := h.1; simp [mix0] at this)]
  rw [hb]
  exact ⟨rfl, rfl⟩
theorem mix_low (h : mixLegal S L) (ok : ScaleOk S nu de) (hlow : ∀ j ∈ L, j.E ≤ (gM S j.T).Lo) : mixSw S nu de L = -1 ∧ missedL L (mixFin S nu de L) = [] := by
  have hpos := ok.pos
  refine ⟨?_, ?_⟩
  · unfold mixSw; rw [low_st hlow 120]; rfl
  · rw [missed_nil, mixFin_q]
    intro i hi
    cases hl : lateAt L (simU L (mixQ S nu de L) 120).fin i with
    | false => rfl
    | true =>
      exfalso
      have hat := h.at hi
      have hok := hat.2.2.2.2
      unfold MTask.ok at hok
      obtain ⟨h1, h2⟩ := (late_iff (mix_fair S nu de L) (mix_E h) hi (by omega)).1 hl
      obtain ⟨d, hd⟩ := Int.eq_ofNat_of_zero_le (show 0 ≤ (L.getD i default).D by omega)
      rw [hd, Int.toNat_natCast] at h2
      have h3 : dnM S nu de L d i < (L.getD i default).E := h2
      have hm := dn_mono (S := S) (nu := nu) (de := de) (L := L) (i := i) (show d - 1 ≤ d by omega)
      have hE := hlow _ (getD_mem hi)
      have hk := (low_key h ok (low_seg hlow (fun i hi => (h.at hi).2.1.1) d) (t := d) (by omega) hi (by omega) (by omega) (by omega)).2 (by omega)
      have hle : mixKey S nu de L i ≤ (d : Int) * de := by
        unfold mixKey
        rw [← hd, hat.2.2.2.1, Int.add_mul]
        have : (gM S (L.getD i default).T).P * nu ≤ (gM S (L.getD i default).T).P * de := Int.mul_le_mul_of_nonneg_left hpos.2 (by omega)
        split <;> omega
      omega
end
end Go.Ds
