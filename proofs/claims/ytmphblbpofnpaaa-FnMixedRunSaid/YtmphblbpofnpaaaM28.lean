import Derived.Test.YtmphblbpofnpaaaMX
namespace Go.Ds
set_option maxRecDepth 20000
theorem mix_job {S : List MTask} {nu de : Int} {L : List Job} (hv : mixLegal S L) {n : Nat} (hn : n < L.length) (hf : n < (mixFin S nu de L).length) :
    ((mixRun S nu de L).count (n : Int) : Int) ≤ L[n].E ∧ (0 ≤ (mixFin S nu de L)[n] → ((mixRun S nu de L).count (n : Int) : Int) = L[n].E) := by
  have hi := runInv (mix_fair S nu de L) (mix_E hv) 120 n hn
  have hq := sim_q (L := L) (pick := mixPick S nu de L) (s0 := mix0) 120
  have gE : (L.getD n default).E = L[n].E := by simp [List.getD_eq_getElem?_getD, hn]
  have gF : (mixFin S nu de L)[n] = gI (simU L (mixQ S nu de L) 120).fin n := by
    refine Eq.trans ?_ (congrArg (fun X => gI X n) hq.2.2)
    exact (show gI (mixFin S nu de L) n = _ from by simp [gI, List.getD_eq_getElem?_getD, hf]).symm
  have gC : (mixRun S nu de L).count (n : Int) = (simU L (mixQ S nu de L) 120).run.count (n : Int) := congrArg (fun X => List.count (n : Int) X) hq.2.1
  have h1 := hi.le
  have h2 := hi.cnt
  rw [gC, gF, ← gE]
  rcases hi.fin with ⟨e, h3⟩ | ⟨f, e, _, _, h3, _⟩
  · exact ⟨by omega, fun h => by omega⟩
  · exact ⟨by omega, fun h => by omega⟩
def lowS (S : List MTask) : List Task := S.map fun t => ⟨t.Lo, t.P, t.P⟩
theorem lowS_len (S : List MTask) : (lowS S).length = S.length := by simp [lowS]
theorem lowS_gT {S : List MTask} {k : Int} (h0 : 0 ≤ k) (h1 : k < S.length) : gT (lowS S) k = ⟨(gM S k).Lo, (gM S k).P, (gM S k).P⟩ := by
  obtain ⟨q, rfl⟩ := Int.eq_ofNat_of_zero_le h0
  have hq : q < S.length := by omega
  rw [gM_nat hq, gT_nat (show q < (lowS S).length by rw [lowS_len]; exact hq)]
  simp [lowS]
theorem lowS_ok {S : List MTask} (h : mixOk S) : setOk (lowS S) := by
  refine ⟨by rw [lowS_len]; exact h.1, fun t ht => ?_⟩
  obtain ⟨x, hx, rfl⟩ := List.mem_map.1 ht
  have := h.2 x hx
  unfold MTask.ok at this
  unfold Task.ok
  simp only
  omega
theorem lowS_legal {S : List MTask} {L : List Job} (h : mixLegal S L) (hn : ∀ t ∈ S, t.V = false) : jobsLegal (lowS S) L := by
  have hT : ∀ j ∈ L, 0 ≤ j.T ∧ j.T < S.length := fun j hj => (h.2.1.mem hj).1
  have hc : ∀ j ∈ L, costOf (lowS S) j.T = hiOf S j.T := fun j hj => by
    obtain ⟨h0, h1⟩ := hT j hj
    unfold costOf hiOf
    rw [lowS_gT h0 h1]
    obtain ⟨q, hq⟩ := Int.eq_ofNat_of_zero_le h0
    rw [hq, gM_nat (by omega)]
    have hm := List.getElem_mem (l := S) (show q < S.length by omega)
    have := h.1.2 _ hm
    unfold MTask.ok at this
    exact (this.2.2.2 (hn _ hm)).symm
  have hp : ∀ j ∈ L, perOf (lowS S) j.T = perM S j.T ∧ (gT (lowS S) j.T).D = perM S j.T := fun j hj => by
    obtain ⟨h0, h1⟩ := hT j hj
    unfold perOf perM
    rw [lowS_gT h0 h1]
    exact ⟨rfl, rfl⟩
  refine ⟨lowS_ok h.1, ⟨h.2.1.1, fun k hk => ?_⟩, fun k hk b hb => ?_, fun j hj => ?_⟩
  · have := h.2.1.2 k hk
    unfold jrowAt at this ⊢
    rw [lowS_len, hc _ (List.getElem_mem hk)]
    exact this
  · rw [(hp _ (List.getElem_mem hk)).1]
    exact h.2.2.1 k hk b hb
  · rw [(hp j hj).2]
    exact h.2.2.2 j hj
theorem mix_edf {S : List MTask} {nu de : Int} {L : List Job} (hv : mixLegal S L) (hde : 0 < de) (hn : ∀ t ∈ S, t.V = false) : mixRun S nu de L = (simU L (edfPick L) 120).run ∧ mixFin S nu de L = (simU L (edfPick L) 120).fin := by
  have := mix_plain (S := S) (nu := nu) (de := de) (L := L) hde (fun j hj => (hv.2.1.mem hj).2.1.1) (fun i hi => by
    obtain ⟨t, ht, et, _⟩ := mix_row hv hi
    unfold vitJ
    rw [show L.getD i default = L[i] by simp [List.getD_eq_getElem?_getD, hi], et, gM_nat ht]
    exact hn _ (List.getElem_mem ht)) 120
  exact ⟨this.2.1, this.2.2.1⟩
end Go.Ds
