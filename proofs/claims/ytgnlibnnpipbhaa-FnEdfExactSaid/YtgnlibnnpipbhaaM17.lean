/- The plain law: the synchronous pattern attains the response times. Definitions in plain Lean; no program in sight. -/
import Derived.Test.YtgnlibnnpipbhaaM16
namespace Go.Ds

theorem syncIn_len (S : List Task) (lim : Int) (now : Nat) (M : List Job) : ∀ k, (syncIn S lim now M k).length ≤ M.length + k
  | 0 => Nat.le_refl _
  | k + 1 => by
    have ih := syncIn_len S lim now M k
    simp only [syncIn]
    split
    · rw [List.length_append, List.length_cons, List.length_nil]; omega
    · omega
theorem sync_len {S : List Task} (h5 : S.length ≤ 5) (lim : Int) : ∀ n, (sync S lim n).length ≤ 5 * n
  | 0 => by simp [sync]
  | n + 1 => by
    have ih := sync_len h5 lim n
    have := syncIn_len S lim n (sync S lim n) S.length
    simp only [sync]; omega
/-- The first jobs are all there. -/
theorem syncIn_early {S : List Task} (h5 : S.length ≤ 5) (lim : Int) {now : Nat} (hn : now < 12) : ∀ k, k ≤ S.length → ∀ i, i < k → syncOk S lim now i → syncJob S now i ∈ syncIn S lim now (sync S lim now) k
  | 0, _, i, hi, _ => absurd hi (by omega)
  | k + 1, hk, i, hi, ho => by
    have h1 := syncIn_len S lim now (sync S lim now) k
    have h2 := sync_len h5 lim now
    simp only [syncIn]
    rcases Nat.lt_succ_iff_lt_or_eq.1 hi with h3 | h3
    · have ih := syncIn_early h5 lim hn k (by omega) i h3 ho
      split
      · exact List.mem_append_left _ ih
      · exact ih
    · subst h3
      rw [if_pos ⟨ho, by omega⟩]; simp
theorem sync_early {S : List Task} (h5 : S.length ≤ 5) (lim : Int) {now i : Nat} (hn : now < 12) (hi : i < S.length) (ho : syncOk S lim now i) : ∀ n, now < n → syncJob S now i ∈ sync S lim n
  | 0, h => absurd h (by omega)
  | n + 1, h => by
    simp only [sync]
    rcases Nat.lt_succ_iff_lt_or_eq.1 h with h1 | h1
    · exact syncIn_sub S lim n _ (sync_early h5 lim hn hi ho n h1) _
    · subst h1; exact syncIn_early h5 lim hn S.length (Nat.le_refl _) i hi ho

/-- Jobs at the first c multiples of the period are counted. -/
theorem cntW_ge {L : List Job} {k P : Int} (hP : 1 ≤ P) : ∀ c : Nat, (∀ q : Nat, q < c → ∃ i, i < L.length ∧ (L.getD i default).T = k ∧ (L.getD i default).R = q * P) → (c : Int) ≤ cntW L k 0 (c * P) L.length
  | 0, _ => by
    have : cntW L k 0 ((0 : Nat) * P) L.length = 0 := by
      refine sumI_zero fun i hi => ?_
      rw [if_neg]
      unfold inWin
      rw [decide_eq_true_iff]
      omega
    rw [this]; exact Int.le_refl _
  | c + 1, h => by
    have ih := cntW_ge hP c fun q hq => h q (by omega)
    obtain ⟨i, hi, h1, h2⟩ := h c (by omega)
    have hle : (c : Int) * P + P = ((c + 1 : Nat) : Int) * P := by rw [show ((c + 1 : Nat) : Int) = (c : Int) + 1 by omega, Int.add_mul, Int.one_mul]
    have hlt : cntW L k 0 (c * P) L.length < cntW L k 0 ((c + 1 : Nat) * P) L.length := by
      unfold cntW
      refine sumI_lt (j := i) (fun i _ => ?_) hi ?_
      · unfold inWin
        by_cases hw : (L.getD i default).T = k ∧ 0 ≤ (L.getD i default).R ∧ (L.getD i default).R < 0 + c * P
        · rw [if_pos (decide_eq_true hw), if_pos (decide_eq_true ⟨hw.1, hw.2.1, by omega⟩)]; exact Int.le_refl _
        · rw [if_neg (by rw [decide_eq_true_iff]; exact hw)]
          split <;> omega
      · unfold inWin
        have hc0 : 0 ≤ (c : Int) * P := Int.mul_nonneg (by omega) (by omega)
        rw [if_neg (by rw [decide_eq_true_iff, h2]; omega), if_pos (decide_eq_true ⟨h1, by omega, by omega⟩)]
        decide
    omega

/-- The step from one priority to the next. -/
theorem hp_step {S : List Task} {J O : List Int} {L : List Job} (h : jitLegal S J L) (hO : ordOk S O) {t w : Int} {m : Nat} (hmO : m < O.length) :
    work (hpWin O L (m + 1) t w) (fun i => (gT S (L.getD i default).T).C) L.length = work (hpWin O L m t w) (fun i => (gT S (L.getD i default).T).C) L.length + cntW L O[m] t w L.length * (gT S O[m]).C := by
  unfold work cntW
  rw [← sumI_mul]
  refine sumI_add fun i hi => ?_
  obtain ⟨q, hq, e1, hr⟩ := rank_of hO (h.2.1.mem (getD_mem hi)).1
  dsimp only
  unfold hpWin inWin
  rw [hr]
  by_cases hqm : q = m
  · subst hqm
    rw [e1]
    by_cases hwi : t ≤ (L.getD i default).R ∧ (L.getD i default).R < t + w
    · rw [if_pos (by rw [decide_eq_true_iff]; exact ⟨by omega, hwi⟩), if_neg (by rw [decide_eq_true_iff]; omega), if_pos (by rw [decide_eq_true_iff]; exact ⟨rfl, hwi⟩)]; omega
    · rw [if_neg (by rw [decide_eq_true_iff]; exact fun g => hwi g.2), if_neg (by rw [decide_eq_true_iff]; omega), if_neg (by rw [decide_eq_true_iff]; exact fun g => hwi g.2)]; omega
  · have hne : (L.getD i default).T ≠ O[m] := by
      intro e2
      rw [← e1] at e2
      exact hqm ((List.getElem_inj hO.2.2.2).1 e2)
    rw [if_neg (c := decide ((L.getD i default).T = O[m] ∧ _) = true) (by rw [decide_eq_true_iff]; exact fun g => hne g.1)]
    by_cases hwi : (q : Int) < m ∧ t ≤ (L.getD i default).R ∧ (L.getD i default).R < t + w
    · rw [if_pos (by rw [decide_eq_true_iff]; omega), if_pos (by rw [decide_eq_true_iff]; exact hwi)]; omega
    · rw [if_neg (by rw [decide_eq_true_iff]; omega), if_neg (by rw [decide_eq_true_iff]; exact hwi)]; omega

/-- All the work that the response time counts is there. -/
theorem hp_ge {S : List Task} {O : List Int} (hO : ordOk S O) {w c : Int} (hw : 1 ≤ w) (hw12 : w ≤ 12) : ∀ m, m ≤ O.length →
    nxt S (List.replicate S.length 0) (O.take m) c w ≤ work (hpWin O (sync S 60 60) m 0 w) (fun i => (gT S ((sync S 60 60).getD i default).T).C) (sync S 60 60).length + c
  | 0, _ => by
    have h := sync_legal hO.1 (show (60 : Int) ≤ 120 by omega) 60
    have : work (hpWin O (sync S 60 60) 0 0 w) (fun i => (gT S ((sync S 60 60).getD i default).T).C) (sync S 60 60).length = 0 := by
      refine sumI_zero fun i hi => ?_
      obtain ⟨q, _, _, hr⟩ := rank_of hO (h.2.1.mem (getD_mem hi)).1
      rw [if_neg]
      unfold hpWin
      rw [decide_eq_true_iff]
      omega
    rw [this, List.take_zero, nxt_nil]; omega
  | m + 1, hm => by
    have ih := hp_ge hO (c := c) hw hw12 m (by omega)
    have h := sync_legal hO.1 (show (60 : Int) ≤ 120 by omega) 60
    have hj := (legal_zero S (sync S 60 60)).2 h
    have hmO : m < O.length := by omega
    have hk := hO.2.2.1 _ (List.getElem_mem hmO)
    have ht := gT_ok hO.1 hk.1 hk.2
    unfold Task.ok at ht
    rw [List.take_succ_eq_append_getElem hmO, nxt_append, hp_step hj hO hmO, gI_zeros]
    obtain ⟨kn, hkn⟩ := Int.eq_ofNat_of_zero_le hk.1
    have hcn : 0 ≤ (w + 0 + (gT S O[m]).P - 1) / (gT S O[m]).P := Int.ediv_nonneg (by omega) (by omega)
    obtain ⟨cn, hcn⟩ := Int.eq_ofNat_of_zero_le hcn
    have hup : (cn : Int) * (gT S O[m]).P ≤ w + (gT S O[m]).P - 1 := by
      have := Int.ediv_mul_le (w + 0 + (gT S O[m]).P - 1) (show (gT S O[m]).P ≠ 0 by omega)
      rw [hcn] at this; omega
    have hge : (cn : Int) ≤ cntW (sync S 60 60) O[m] 0 w (sync S 60 60).length := by
      have h1 := cntW_ge (L := sync S 60 60) (k := O[m]) (P := (gT S O[m]).P) (by omega) cn fun q hq => by
        have hqP : (q : Int) * (gT S O[m]).P ≤ w - 1 := by
          have : ((q + 1 : Nat) : Int) * (gT S O[m]).P ≤ cn * (gT S O[m]).P := Int.mul_le_mul_of_nonneg_right (by omega) (by omega)
          rw [show ((q + 1 : Nat) : Int) = (q : Int) + 1 by omega, Int.add_mul, Int.one_mul] at this
          omega
        have hq0 : 0 ≤ (q : Int) * (gT S O[m]).P := Int.mul_nonneg (by omega) (by omega)
        obtain ⟨t, htq⟩ := Int.eq_ofNat_of_zero_le hq0
        have hmem := sync_early hO.1.1 60 (now := t) (i := kn) (by omega) (by omega) (by
          unfold syncOk
          rw [← hkn, ← htq]
          exact ⟨by rw [Int.mul_comm]; exact Int.mul_emod_right _ _, by omega⟩) 60 (by omega)
        obtain ⟨i, hi, e⟩ := List.getElem_of_mem hmem
        refine ⟨i, hi, ?_, ?_⟩
        · rw [getD_at hi, e]; exact hkn.symm
        · rw [getD_at hi, e]; exact htq.symm
      have e : cntW (sync S 60 60) O[m] 0 w (sync S 60 60).length = cntW (sync S 60 60) O[m] 0 (cn * (gT S O[m]).P) (sync S 60 60).length := by
        unfold cntW
        refine sumI_congr fun i hi => ?_
        obtain ⟨t, a, h2, h3, h4, _⟩ := (sync_inv hO.1 60 60).form _ (getD_mem hi)
        have hlow : w ≤ (cn : Int) * (gT S O[m]).P := by
          have := Int.lt_ediv_add_one_mul_self (w + 0 + (gT S O[m]).P - 1) (show 0 < (gT S O[m]).P by omega)
          rw [hcn, Int.add_mul, Int.one_mul] at this; omega
        have hiff : inWin (sync S 60 60) O[m] 0 w i = inWin (sync S 60 60) O[m] 0 (cn * (gT S O[m]).P) i := by
          unfold inWin
          refine decide_eq_decide.2 ⟨fun g => ⟨g.1, g.2.1, by omega⟩, fun g => ⟨g.1, g.2.1, ?_⟩⟩
          have hT : (a : Int) = O[m] := by rw [← g.1, h4]; rfl
          have hRt : ((sync S 60 60).getD i default).R = t := by rw [h4]; rfl
          unfold syncOk at h3
          rw [hT] at h3
          obtain ⟨q, hq⟩ := Int.dvd_of_emod_eq_zero h3.1
          have g3 := g.2.2
          rw [hRt, hq, Int.mul_comm] at g3
          rw [hRt, hq]
          have hqc : q < cn := by
            apply Classical.byContradiction
            intro hn
            have : (cn : Int) * (gT S O[m]).P ≤ q * (gT S O[m]).P := Int.mul_le_mul_of_nonneg_right (by omega) (by omega)
            omega
          have : (q + 1) * (gT S O[m]).P ≤ cn * (gT S O[m]).P := Int.mul_le_mul_of_nonneg_right (by omega) (by omega)
          rw [Int.add_mul, Int.one_mul] at this
          rw [Int.mul_comm]
          omega
        rw [hiff]
      rw [e]; exact h1
    rw [hcn]
    have := Int.mul_le_mul_of_nonneg_right hge (show 0 ≤ (gT S O[m]).C by omega)
    omega

/-- A job has run at most as many ticks as there were. -/
theorem chk_cost {L : List Job} {pick : Nat → List Int → Int} (hf : Fair L pick) {j : Nat} (hj : j < L.length) (k : Nat) : gI (simU L pick k).done j ≤ k :=
  (sim_done (L := L) (pick := fun _ now done => (pick now done, ())) (s0 := ()) (fun _ now done => (hf.lt now done).2) k j hj).2

/-- The first job of every task finishes exactly at its response time. -/
theorem fp_exact {S : List Task} {O : List Int} {pick : Nat → List Int → Int} (hO : ordOk S O) (hp : FixedOn O (sync S 60 60) pick) (hr : ∀ k, 0 ≤ k → k < (S.length : Int) → 0 ≤ gI (resps S (List.replicate S.length 0) O O.length) k) :
    ∀ j, j < (sync S 60 60).length → 0 ≤ gI (simU (sync S 60 60) pick 120).fin j ∧ gI (simU (sync S 60 60) pick 120).fin j ≤ 60 ∧ gI (simU (sync S 60 60) pick 120).fin j - ((sync S 60 60).getD j default).R ≤ gI (resps S (List.replicate S.length 0) O O.length) ((sync S 60 60).getD j default).T ∧
      (((sync S 60 60).getD j default).R = 0 → gI (simU (sync S 60 60) pick 120).fin j = gI (resps S (List.replicate S.length 0) O O.length) ((sync S 60 60).getD j default).T) := by
  have hl := sync_legal hO.1 (show (60 : Int) ≤ 120 by omega) 60
  have hj := (legal_zero S (sync S 60 60)).2 hl
  have hform := (sync_inv hO.1 60 60).form
  obtain ⟨hfin, hmiss⟩ := fp_fin hj hO hp hr
  have hf := hp.fair
  have hE : ∀ x ∈ sync S 60 60, 1 ≤ x.E := fun x hx => (hl.2.1.mem hx).2.2.1
  have hge := fun w c hw hw12 m hm => hp_ge (S := S) hO (w := w) (c := c) hw hw12 m hm
  generalize sync S 60 60 = L at *
  intro j hjl
  have hmem := getD_mem hjl
  obtain ⟨tj, ij, hij, hoj, ej, _⟩ := hform _ hmem
  have hCj : (L.getD j default).E = (gT S (L.getD j default).T).C := by rw [ej]; rfl
  have hDj : (L.getD j default).D ≤ 60 := by rw [ej]; exact hoj.2
  have harr : arrOf S (L.getD j default) = (L.getD j default).R := by
    have := hl.2.2.2 _ hmem
    unfold arrOf; omega
  have hT := (hl.2.1.mem hmem).1
  have ht := gT_ok hO.1 hT.1 hT.2
  unfold Task.ok at ht
  have hlate := (missed_nil.1 hmiss) j hjl
  unfold lateAt at hlate
  have hlate := of_decide_eq_false hlate
  have h0 : 0 ≤ gI (simU L pick 120).fin j ∧ gI (simU L pick 120).fin j ≤ (L.getD j default).D := by
    have : ¬ (gI (simU L pick 120).fin j < 0 ∨ (L.getD j default).D < gI (simU L pick 120).fin j) := fun h => hlate ⟨by omega, h⟩
    omega
  have hle := hfin j hjl h0.1
  rw [harr] at hle
  refine ⟨h0.1, by omega, hle, fun hR => ?_⟩
  obtain ⟨m, hm, e1, e2⟩ := resps_get (J := List.replicate S.length 0) hO hT.1 hT.2
  have hrk : rank O (L.getD j default).T = m := by rw [← e1]; exact rank_at hO hm
  have hin : Inst S (List.replicate S.length 0) (O.take m) (L.getD j default).T := by rw [← e1]; exact inst_take hj.1 hO hm
  have hpos := hr _ hT.1 hT.2
  rw [e2] at hpos hle ⊢
  rcases respOf_char hin with ⟨e, _⟩ | ⟨w, ⟨w1, w2, w3⟩, e, hmin⟩
  · omega
  rw [gI_zeros] at e w2
  rcases (runInv hf hE 120 j hjl).fin with ⟨e3, _⟩ | ⟨f, q1, q2, q3, q4, q5, _⟩
  · omega
  -- at the last tick no job of a higher priority is ready
  rw [simU_at (show f - 1 < 120 by omega)] at q5
  have hpk := hp (f - 1) (simU L pick (f - 1)).done
  have hdf : doneAt L pick f j = (L.getD j default).E := (fin_iff hf hE hjl (show f ≤ 120 by omega)).1 ⟨by omega, by omega⟩
  have hhp : ∀ i, i < L.length → rank O (L.getD i default).T < m → (L.getD i default).R < f → doneAt L pick f i = (L.getD i default).E := by
    intro i hi hri hRi
    refine done_full hf hE hi (show f - 1 ≤ f by omega) ?_
    have hlei : doneAt L pick (f - 1) i ≤ _ := (runInv hf hE (f - 1) i hi).le
    apply Classical.byContradiction
    intro hne
    have hrd : readyJ L (simU L pick (f - 1)).done (f - 1 : Nat) i = true := by
      unfold readyJ
      refine decide_eq_true ⟨by omega, ?_⟩
      change doneAt L pick (f - 1) i < _
      omega
    rcases bestF_spec (readyJ L (simU L pick (f - 1)).done (f - 1 : Nat)) (fun i => rank O (L.getD i default).T) L.length with ⟨e4, h1⟩ | ⟨n, en, hn, hok, h1, _⟩
    · rw [h1 i hi] at hrd; cases hrd
    · have hnj : n = j := by
        have := hpk.trans en
        omega
      subst hnj
      have := h1 i hi hrd
      omega
  have hf1 : (1 : Int) ≤ f := by omega
  have hfw : (f : Int) ≤ w := by omega
  have hwk := work_le (L := L) (pick := pick) hf (A := fun _ => true) (fun _ _ h => by cases h) (fun i => hpWin O L m 0 f i || decide (i = j)) 0 f
  rw [free_all, Nat.zero_add] at hwk
  have hz : work (fun i => hpWin O L m 0 f i || decide (i = j)) (doneAt L pick 0) L.length = 0 := sumI_zero fun i hi => by
    split
    · exact done0 hi
    · rfl
  have hone : work (hpWin O L m 0 f) (fun i => (gT S (L.getD i default).T).C) L.length + (gT S (L.getD j default).T).C ≤ work (fun i => hpWin O L m 0 f i || decide (i = j)) (doneAt L pick f) L.length := by
    have hjr : hpWin O L m 0 f j = false := decide_eq_false fun g => by omega
    have hsum : ∀ n, n ≤ L.length → sumI (fun i => if hpWin O L m 0 f i then (gT S (L.getD i default).T).C else 0) n + (if j < n then (gT S (L.getD j default).T).C else 0) ≤ sumI (fun i => if (hpWin O L m 0 f i || decide (i = j)) = true then doneAt L pick f i else 0) n := by
      intro n
      induction n with
      | zero => intro _; simp [sumI]
      | succ n ihn =>
        intro hn
        have ih := ihn (by omega)
        simp only [sumI]
        by_cases h1 : n = j
        · subst h1
          rw [if_neg (show ¬ n < n by omega)] at ih
          rw [if_neg (show ¬ hpWin O L m 0 f n = true by rw [hjr]; decide), if_pos (show n < n + 1 by omega), if_pos (show (hpWin O L m 0 f n || decide (n = n)) = true by simp), hdf, hCj]
          omega
        · have hjn : (if j < n + 1 then (gT S (L.getD j default).T).C else 0) = if j < n then (gT S (L.getD j default).T).C else 0 := by
            by_cases h2 : j < n
            · rw [if_pos h2, if_pos (by omega)]
            · rw [if_neg h2, if_neg (by omega)]
          rw [hjn]
          by_cases hw : hpWin O L m 0 f n = true
          · have hwn := of_decide_eq_true hw
            have hd := hhp n (by omega) hwn.1 (by omega)
            obtain ⟨tn, an, _, _, en, _⟩ := hform _ (getD_mem (show n < L.length by omega))
            have hCn : (L.getD n default).E = (gT S (L.getD n default).T).C := by rw [en]; rfl
            rw [if_pos hw, if_pos (show (hpWin O L m 0 f n || decide (n = j)) = true by rw [hw]; rfl), hd, hCn]
            omega
          · rw [if_neg hw, if_neg (show ¬ (hpWin O L m 0 f n || decide (n = j)) = true by rw [Bool.or_eq_true, decide_eq_true_iff]; exact fun g => g.elim hw h1)]
            omega
    have := hsum L.length (Nat.le_refl _)
    rw [if_pos hjl] at this
    exact this
  have hg := hge f (gT S (L.getD j default).T).C hf1 (by omega) m (by omega)
  have hCf : (gT S (L.getD j default).T).C ≤ f := by
    have hb := chk_cost hf hjl f
    unfold doneAt at hdf
    omega
  have : ¬ (f : Int) < w := fun hlt => by
    have := hmin f hCf hlt
    omega
  omega
end Go.Ds
