/- The plain law: a rejected set does miss a deadline. Definitions in plain Lean; no program in sight. -/
import Derived.Test.YtgnlibnnpipbhaaM17
import Derived.Test.YtgnlibnnpipbhaaM15
namespace Go.Ds

/-- The synchronous pattern holds all the work that is demanded. -/
theorem sync_work {S : List Task} (hS : setOk S) {N : Nat} (hN : N ≤ 120) (h60 : (sync S N N).length < 60) : dbf S N ≤ work (within (sync S N N) 0 N) (fun i => ((sync S N N).getD i default).E) (sync S N N).length := by
  have hl := sync_legal hS (show ((N : Nat) : Int) ≤ 120 by omega) N
  have hform := (sync_inv hS N N).form
  have hall := sync_all S N N h60
  generalize sync S N N = L at *
  have key : ∀ m, m ≤ S.length → dbfN S N m ≤ work (fun i => decide ((L.getD i default).T < m)) (fun i => (L.getD i default).E) L.length := by
    intro m
    induction m with
    | zero =>
      intro _
      have : work (fun i => decide ((L.getD i default).T < (0 : Nat))) (fun i => (L.getD i default).E) L.length = 0 := by
        refine sumI_zero fun i hi => ?_
        have := (hl.2.1.mem (getD_mem hi)).1
        rw [if_neg]
        rw [decide_eq_true_iff]
        omega
      rw [this]; exact Int.le_refl _
    | succ m ih =>
      intro hm
      have ih := ih (by omega)
      have hx := gT_ok hS (show (0 : Int) ≤ (m : Int) by omega) (show (m : Int) < S.length by omega)
      unfold Task.ok at hx
      have hone : dbf1 (gT S m) N ≤ work (fun i => decide ((L.getD i default).T = m)) (fun i => (L.getD i default).E) L.length := by
        have hnn : 0 ≤ work (fun i => decide ((L.getD i default).T = m)) (fun i => (L.getD i default).E) L.length := by
          have : sumI (fun _ => (0 : Int)) L.length = 0 := sumI_zero fun _ _ => rfl
          rw [← this]
          refine sumI_le fun i hi => ?_
          have := (hl.2.1.mem (getD_mem hi)).2.2
          dsimp only
          split <;> omega
        unfold dbf1
        by_cases hD : (gT S m).D ≤ (N : Int)
        · rw [if_pos hD]
          have hq0 : 0 ≤ ((N : Int) - (gT S m).D) / (gT S m).P := Int.ediv_nonneg (by omega) (by omega)
          obtain ⟨q, hq⟩ := Int.eq_ofNat_of_zero_le hq0
          have hup : (q : Int) * (gT S m).P ≤ (N : Int) - (gT S m).D := by
            have := Int.ediv_mul_le ((N : Int) - (gT S m).D) (show (gT S m).P ≠ 0 by omega)
            rw [hq] at this; exact this
          have hcnt := cntW_ge (L := L) (k := m) (P := (gT S m).P) (by omega) (q + 1) fun a ha => by
            have haP : (a : Int) * (gT S m).P ≤ q * (gT S m).P := Int.mul_le_mul_of_nonneg_right (by omega) (by omega)
            have ha0 : 0 ≤ (a : Int) * (gT S m).P := Int.mul_nonneg (by omega) (by omega)
            obtain ⟨t, htq⟩ := Int.eq_ofNat_of_zero_le ha0
            have hmem := hall t m (by omega) (by omega) (by
              unfold syncOk
              rw [← htq]
              exact ⟨by rw [Int.mul_comm]; exact Int.mul_emod_right _ _, by omega⟩)
            obtain ⟨i, hi, e⟩ := List.getElem_of_mem hmem
            refine ⟨i, hi, ?_, ?_⟩
            · rw [getD_at hi, e]; rfl
            · rw [getD_at hi, e]; exact htq.symm
          have hle : cntW L m 0 ((q + 1 : Nat) * (gT S m).P) L.length * (gT S m).C ≤ work (fun i => decide ((L.getD i default).T = m)) (fun i => (L.getD i default).E) L.length := by
            unfold cntW
            rw [← sumI_mul]
            refine sumI_le fun i hi => ?_
            dsimp only
            obtain ⟨t, a, h2, h3, h4, _⟩ := hform _ (getD_mem hi)
            have hEi := (hl.2.1.mem (getD_mem hi)).2.2
            unfold inWin
            by_cases hw : (L.getD i default).T = m ∧ 0 ≤ (L.getD i default).R ∧ (L.getD i default).R < 0 + (q + 1 : Nat) * (gT S m).P
            · have ham : (a : Int) = m := by
                have h5 := hw.1
                rw [h4] at h5
                exact h5
              have hE : (L.getD i default).E = (gT S m).C := by
                rw [h4]
                show (gT S (a : Int)).C = _
                rw [ham]
              rw [if_pos (decide_eq_true hw), if_pos (decide_eq_true hw.1), hE]; omega
            · rw [if_neg (by rw [decide_eq_true_iff]; exact hw)]
              split <;> omega
          rw [hq]
          have := Int.mul_le_mul_of_nonneg_right hcnt (show 0 ≤ (gT S m).C by omega)
          rw [show ((q + 1 : Nat) : Int) = (q : Int) + 1 by omega] at this hle
          omega
        · rw [if_neg hD]; exact hnn
      have e : work (fun i => decide ((L.getD i default).T < (m + 1 : Nat))) (fun i => (L.getD i default).E) L.length = work (fun i => decide ((L.getD i default).T < m)) (fun i => (L.getD i default).E) L.length + work (fun i => decide ((L.getD i default).T = m)) (fun i => (L.getD i default).E) L.length := by
        refine sumI_add fun i hi => ?_
        dsimp only
        by_cases h1 : (L.getD i default).T < m
        · rw [if_pos (by rw [decide_eq_true_iff]; omega), if_pos (by rw [decide_eq_true_iff]; exact h1), if_neg (by rw [decide_eq_true_iff]; omega)]; omega
        · by_cases h2 : (L.getD i default).T = m
          · rw [if_pos (by rw [decide_eq_true_iff]; omega), if_neg (by rw [decide_eq_true_iff]; exact h1), if_pos (by rw [decide_eq_true_iff]; exact h2)]; omega
          · rw [if_neg (by rw [decide_eq_true_iff]; omega), if_neg (by rw [decide_eq_true_iff]; exact h1), if_neg (by rw [decide_eq_true_iff]; exact h2)]; omega
      rw [e]
      unfold dbfN at ih ⊢
      simp only [sumI]
      omega
  have := key S.length (Nat.le_refl _)
  rw [← dbf_all] at this
  refine Int.le_trans this (sumI_le fun i hi => ?_)
  dsimp only
  obtain ⟨t, a, h2, h3, h4, _⟩ := hform _ (getD_mem hi)
  have hin : within L 0 N i = true := by
    unfold within
    rw [decide_eq_true_iff, h4]
    exact ⟨by show ((0 : Nat) : Int) ≤ (t : Int); omega, h3.2⟩
  have hEi := (hl.2.1.mem (getD_mem hi)).2.2
  rw [if_pos hin]
  split <;> omega

/-- Every schedule of it misses a deadline. -/
theorem over_missed {S : List Task} (hS : setOk S) {N : Nat} (hN : N ≤ 120) (h60 : (sync S N N).length < 60) (ho : (N : Int) < dbf S N) {pick : Nat → List Int → Int} (hf : Fair (sync S N N) pick) : missedL (sync S N N) (simU (sync S N N) pick 120).fin ≠ [] := by
  have hw := sync_work hS hN h60
  have hl := sync_legal hS (show ((N : Nat) : Int) ≤ 120 by omega) N
  generalize sync S N N = L at *
  have hE : ∀ j ∈ L, 1 ≤ j.E := fun j hj => (hl.2.1.mem hj).2.2.1
  intro hm
  obtain ⟨i, hi, hwi, hlt⟩ := too_full (L := L) (pick := pick) hf (A := fun _ => true) (fun _ _ h => by cases h) (a := 0) (d := N) (by omega) hE (by rw [free_all]; omega)
  have hD := (of_decide_eq_true hwi).2
  have hmem := getD_mem hi
  have hDi : 0 ≤ (L.getD i default).D := by
    have h2 := hl.2.1.mem hmem
    have h3 := hl.2.2.2 _ hmem
    have h4 := gT_ok hS h2.1.1 h2.1.2
    unfold Task.ok at h4
    omega
  have hmono := done_mono' hf i (show (L.getD i default).D.toNat ≤ N by omega)
  have := (missed_nil.1 hm) i hi
  rw [(late_iff hf hE hi hDi).2 ⟨by omega, by omega⟩] at this
  cases this
end Go.Ds
