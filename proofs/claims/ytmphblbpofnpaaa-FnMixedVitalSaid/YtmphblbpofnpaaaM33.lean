import Derived.Test.YtmphblbpofnpaaaM32
namespace Go.Ds
set_option maxRecDepth 20000
section
variable {S : List MTask} {nu de : Int} {L : List Job}
theorem cntQ_or {L : List Job} {k : Int} {P Q : Nat → Bool} (hd : ∀ i, i < L.length → P i = true → Q i = true → False) : cntQ L k (fun i => P i || Q i) = cntQ L k P + cntQ L k Q := by
  refine sumI_add fun i hi => ?_
  have := hd i hi
  by_cases hT : (L.getD i default).T = k
  · cases hp : P i <;> cases hq : Q i <;> simp_all
  · rw [if_neg (fun g => hT g.1), if_neg (fun g => hT g.1), if_neg (fun g => hT g.1)]; rfl
theorem two_demand (h : mixLegal S L) (ok : ScaleOk S nu de) {t0 r1 d : Nat} (h1 : t0 ≤ r1) (h2 : r1 ≤ d) {P1 P2 : Nat → Bool} (hP1 : ∀ i, i < L.length → P1 i = true → (t0 : Int) ≤ (L.getD i default).R ∧ mixKey S nu de L i ≤ r1 * de + ((d : Int) - r1) * nu ∧ (vitJ S L i = true → (L.getD i default).R < r1))
    (hP2 : ∀ i, i < L.length → P2 i = true → vitJ S L i = true ∧ (r1 : Int) ≤ (L.getD i default).R ∧ (L.getD i default).D ≤ d) : sumI (fun k => cntQ L k P1 * (gM S k).Lo + cntQ L k P2 * (gM S k).Hi) S.length ≤ (d : Int) - t0 := by
  have hpos := ok.pos
  have hX : 0 ≤ ((r1 : Int) - t0) * de := Int.mul_nonneg (by omega) (by omega)
  have hZ : 0 ≤ ((d : Int) - r1) * nu := Int.mul_nonneg (by omega) (by omega)
  have hYX : (r1 : Int) * de + ((d : Int) - r1) * nu - t0 * de = ((r1 : Int) - t0) * de + ((d : Int) - r1) * nu := by rw [Int.sub_mul (r1 : Int) t0 de]; omega
  have hd := demand h.1 ok hX hZ (F := fun k => cntQ L k P1 * (gM S k).Lo + cntQ L k P2 * (gM S k).Hi) ?_ ?_
  · have e : ((r1 : Int) - t0) * de * nu + ((d : Int) - r1) * nu * de = ((d : Int) - t0) * (nu * de) := by
      rw [Int.mul_assoc, Int.mul_comm de nu, Int.mul_assoc, ← Int.add_mul]; congr 1; omega
    rw [e] at hd
    exact Int.le_of_mul_le_mul_right hd (Int.mul_pos hpos.1 (by omega))
  · intro k hk hV
    have hok := gM_ok h.1 (show (0 : Int) ≤ k by omega) (show (k : Int) < S.length by omega)
    unfold MTask.ok at hok
    have hc1 := cntQ_nonneg L k P1
    have hc2 := cntQ_nonneg L k P2
    have hw2 := cntQ_win h (k := k) ⟨by omega, by omega⟩ (Q := P2) (lo := r1) (hi := d - (gM S k).P) (fun i hi hT hQ => by
      have h5 := hP2 i hi hQ
      have h6 := (h.at hi).2.2.2.1
      rw [hT] at h6
      omega)
    -- the weights of the two kinds
    have key : (cntQ L k P1 * (gM S k).Lo + cntQ L k P2 * (gM S k).Hi) * (gM S k).P * nu ≤ ((r1 : Int) - t0) * de * (gM S k).Lo + ((d : Int) - r1) * nu * (gM S k).Hi := by
      have hLH : ((d : Int) - r1) * nu * (gM S k).Lo ≤ ((d : Int) - r1) * nu * (gM S k).Hi := Int.mul_le_mul_of_nonneg_left (by omega) hZ
      rcases hw2 with h0 | ⟨g1, g2, g3⟩
      · rw [h0, Int.zero_mul, Int.add_zero]
        have hc : cntQ L k P1 * (gM S k).P * nu ≤ ((r1 : Int) - t0) * de + ((d : Int) - r1) * nu := by
          have hw1 := cntQ_win h (k := k) ⟨by omega, by omega⟩ (Q := P1) (lo := t0) (hi := (r1 * de + ((d : Int) - r1) * nu - (gM S k).P * nu) / de) (fun i hi hT hQ => by
            have h5 := hP1 i hi hQ
            refine ⟨h5.1, ?_⟩
            rw [Int.le_ediv_iff_mul_le (by omega)]
            have h6 := h5.2.1
            unfold mixKey vitJ at h6
            rw [hT, if_pos hV] at h6
            omega)
          rcases hw1 with h0 | ⟨f1, f2, f3⟩
          · rw [h0, Int.zero_mul, Int.zero_mul]; omega
          · have h4 := Int.ediv_mul_le (r1 * de + ((d : Int) - r1) * nu - (gM S k).P * nu) (show de ≠ 0 by omega)
            have e0 : (cntQ L k P1 - 1) * (gM S k).P = cntQ L k P1 * (gM S k).P - (gM S k).P := by rw [Int.sub_mul, Int.one_mul]
            have h8 : 0 ≤ (cntQ L k P1 - 1) * (gM S k).P := Int.mul_nonneg (by omega) (by omega)
            rw [e0] at f3 h8
            have h5 : (cntQ L k P1 * (gM S k).P - (gM S k).P) * nu ≤ (cntQ L k P1 * (gM S k).P - (gM S k).P) * de := Int.mul_le_mul_of_nonneg_left hpos.2 h8
            have h6 := Int.mul_le_mul_of_nonneg_right f3 (show 0 ≤ de by omega)
            rw [Int.sub_mul, Int.sub_mul] at h5
            rw [Int.sub_mul, Int.sub_mul ((r1 * de + ((d : Int) - r1) * nu - (gM S k).P * nu) / de)] at h6
            omega
        have h7 := Int.mul_le_mul_of_nonneg_right hc (show 0 ≤ (gM S k).Lo by omega)
        rw [Int.add_mul] at h7
        have e1 : cntQ L k P1 * (gM S k).Lo * (gM S k).P * nu = cntQ L k P1 * (gM S k).P * nu * (gM S k).Lo := by simp only [Int.mul_assoc, Int.mul_comm, Int.mul_left_comm]
        rw [e1]; omega
      · have hor := cntQ_or (L := L) (k := k) (P := P1) (Q := P2) (fun i hi g4 g5 => by
          have := (hP1 i hi g4).2.2 (hP2 i hi g5).1
          have := (hP2 i hi g5).2.1
          omega)
        have hw3 := cntQ_win h (k := k) ⟨by omega, by omega⟩ (Q := fun i => P1 i || P2 i) (lo := t0) (hi := d - (gM S k).P) (fun i hi hT hQ => by
          rw [Bool.or_eq_true] at hQ
          have h6 := (h.at hi).2.2.2.1
          rw [hT] at h6
          rcases hQ with hQ | hQ
          · have h5 := hP1 i hi hQ
            have := h5.2.2 (by unfold vitJ; rw [hT]; exact hV)
            omega
          · have h5 := hP2 i hi hQ
            omega)
        rw [hor] at hw3
        have hsum : (cntQ L k P1 + cntQ L k P2) * (gM S k).P ≤ (d : Int) - t0 := by
          rcases hw3 with h0 | ⟨_, _, f3⟩
          · omega
          · rw [Int.sub_mul, Int.one_mul] at f3; omega
        have htwo : cntQ L k P2 * (gM S k).P ≤ (d : Int) - r1 := by rw [Int.sub_mul, Int.one_mul] at g3; omega
        generalize cntQ L k P1 = c1 at *
        generalize cntQ L k P2 = c2 at *
        generalize (gM S k).P = p at *
        generalize (gM S k).Lo = lo at *
        obtain ⟨e, he⟩ : ∃ e, (gM S k).Hi = lo + e := ⟨(gM S k).Hi - lo, by omega⟩
        rw [he] at hok ⊢
        have m1 : (c1 + c2) * p * lo ≤ ((d : Int) - t0) * lo := Int.mul_le_mul_of_nonneg_right hsum (by omega)
        have m2 : c2 * p * e ≤ ((d : Int) - r1) * e := Int.mul_le_mul_of_nonneg_right htwo (by omega)
        have e1 : (c1 * lo + c2 * (lo + e)) * p = (c1 + c2) * p * lo + c2 * p * e := by
          rw [Int.mul_add, Int.add_mul, Int.add_mul, Int.add_mul, Int.add_mul]
          simp only [Int.mul_assoc, Int.mul_comm, Int.mul_left_comm]
          omega
        have m3 : (c1 * lo + c2 * (lo + e)) * p ≤ ((r1 : Int) - t0) * lo + ((d : Int) - r1) * (lo + e) := by
          rw [e1, Int.mul_add]
          have : ((d : Int) - t0) * lo = ((r1 : Int) - t0) * lo + ((d : Int) - r1) * lo := by rw [← Int.add_mul]; congr 1; omega
          omega
        have m4 := Int.mul_le_mul_of_nonneg_right m3 (show 0 ≤ nu by omega)
        rw [Int.add_mul (((r1 : Int) - t0) * lo)] at m4
        have m5 : ((r1 : Int) - t0) * lo * nu ≤ ((r1 : Int) - t0) * lo * de := Int.mul_le_mul_of_nonneg_left hpos.2 (Int.mul_nonneg (by omega) (by omega))
        rw [Int.mul_right_comm _ lo de] at m5
        rw [Int.mul_right_comm _ (lo + e) nu] at m4
        omega
    have h7 := Int.mul_le_mul_of_nonneg_left key (show 0 ≤ de by omega)
    have e1 : (cntQ L k P1 * (gM S k).Lo + cntQ L k P2 * (gM S k).Hi) * (gM S k).P * (nu * de) = de * ((cntQ L k P1 * (gM S k).Lo + cntQ L k P2 * (gM S k).Hi) * (gM S k).P * nu) := by
      rw [← Int.mul_assoc, Int.mul_comm]
    rw [e1]; exact h7
  · intro k hk hV
    have hok := gM_ok h.1 (show (0 : Int) ≤ k by omega) (show (k : Int) < S.length by omega)
    unfold MTask.ok at hok
    have hc1 := cntQ_nonneg L k P1
    have hc2 : cntQ L k P2 = 0 := sumI_zero fun i hi => by
      rw [if_neg]
      rintro ⟨h5, h6⟩
      have := (hP2 i hi h6).1
      unfold vitJ at this
      rw [h5, hV] at this
      cases this
    rw [hc2, Int.zero_mul, Int.add_zero]
    have hc : cntQ L k P1 * (gM S k).P * de ≤ ((r1 : Int) - t0) * de + ((d : Int) - r1) * nu := by
      have hw1 := cntQ_win h (k := k) ⟨by omega, by omega⟩ (Q := P1) (lo := t0) (hi := (r1 * de + ((d : Int) - r1) * nu) / de - (gM S k).P) (fun i hi hT hQ => by
        have h5 := hP1 i hi hQ
        refine ⟨h5.1, ?_⟩
        have h6 := h5.2.1
        unfold mixKey vitJ at h6
        rw [hT, if_neg (by rw [hV]; simp), (h.at hi).2.2.2.1, hT] at h6
        have := (Int.le_ediv_iff_mul_le (show 0 < de by omega)).2 h6
        omega)
      rcases hw1 with h0 | ⟨f1, f2, f3⟩
      · rw [h0, Int.zero_mul, Int.zero_mul]; omega
      · have h4 := Int.ediv_mul_le (r1 * de + ((d : Int) - r1) * nu) (show de ≠ 0 by omega)
        rw [Int.sub_mul, Int.one_mul] at f3
        have h6 : cntQ L k P1 * (gM S k).P * de ≤ ((r1 * de + ((d : Int) - r1) * nu) / de - t0) * de := Int.mul_le_mul_of_nonneg_right (by omega) (by omega)
        rw [Int.sub_mul] at h6
        omega
    have h7 := Int.mul_le_mul_of_nonneg_right hc (show 0 ≤ nu * (gM S k).Lo from Int.mul_nonneg (by omega) (by omega))
    have e1 : cntQ L k P1 * (gM S k).Lo * (gM S k).P * (nu * de) = cntQ L k P1 * (gM S k).P * de * (nu * (gM S k).Lo) := by simp only [Int.mul_assoc, Int.mul_comm, Int.mul_left_comm]
    have e2 : nu * ((((r1 : Int) - t0) * de + ((d : Int) - r1) * nu) * (gM S k).Lo) = (((r1 : Int) - t0) * de + ((d : Int) - r1) * nu) * (nu * (gM S k).Lo) := Int.mul_left_comm ..
    rw [e1, e2]; exact h7
theorem mix_vital (h : mixLegal S L) (ok : ScaleOk S nu de) {j : Nat} (hj : j < L.length) (hv : vitJ S L j = true) {d : Nat} (hd : (L.getD j default).D = d) : (L.getD j default).E ≤ dnM S nu de L d j := by
  apply Classical.byContradiction
  intro hun
  have hun : dnM S nu de L d j < (L.getD j default).E := by omega
  have hpos := ok.pos
  have hat := h.at hj
  have hok := hat.2.2.2.2
  unfold MTask.ok at hok
  have hR0 : ∀ i, i < L.length → 0 ≤ (L.getD i default).R := fun i hi => (h.at hi).2.1.1
  have mono : ∀ i a b : Nat, a ≤ b → dnM S nu de L a i ≤ dnM S nu de L b i := fun i a b hab => dn_mono hab
  have hLo : ∀ i, i < L.length → 1 ≤ (gM S (L.getD i default).T).Lo := fun i hi => by
    have := (h.at hi).2.2.2.2
    unfold MTask.ok at this; omega
  cases hb : (backAt S nu de L d).high with
  | false =>
    obtain ⟨s, hs⟩ := seg_of hR0 d hb
    have hsj : (s : Int) ≤ (L.getD j default).R := by
      apply Classical.byContradiction
      intro hlt
      have h1 := hs.past j hj hv (by omega)
      have h2 := mono j s d hs.le
      omega
    have hm := mono j (d - 1) d (by omega)
    have hpre := low_pre hLo (mix_inv (nu := nu) (de := de) (mix_E h) hLo d) hb hj hv
    rw [← dnM_eq] at hpre
    have hk := (low_key h ok hs (t := d) (by omega) hj hsj (by omega) (by omega)).2 (by omega)
    unfold mixKey at hk
    rw [if_pos hv, ← hd, hat.2.2.2.1, Int.add_mul] at hk
    have : (gM S (L.getD j default).T).P * nu ≤ (gM S (L.getD j default).T).P * de := Int.mul_le_mul_of_nonneg_left hpos.2 (by omega)
    omega
  | true =>
    obtain ⟨ts, hts, hQ, hmin⟩ := least (Q := fun a => ∀ u, a ≤ u → u ≤ d → (backAt S nu de L u).high = true) d (fun u h1 h2 => by
      obtain rfl : u = d := by omega
      exact hb)
    have hts0 : ts ≠ 0 := by
      rintro rfl
      have := hQ 0 (Nat.le_refl _) (Nat.zero_le _)
      have e : (backAt S nu de L 0).high = false := by
        unfold backAt stBack
        rw [if_neg (fun g => by have := g.1; simp [mixS, sim, mix0] at this)]
        rfl
      rw [e] at this; cases this
    have hlow : (backAt S nu de L (ts - 1)).high = false := by
      cases hx : (backAt S nu de L (ts - 1)).high with
      | false => rfl
      | true =>
        rcases hmin with h0 | hmin
        · exact absurd h0 hts0
        · exfalso; apply hmin
          intro u h1 h2
          by_cases hu : u = ts - 1
          · subst hu; exact hx
          · exact hQ u (by omega) h2
    obtain ⟨s, hs⟩ := seg_of hR0 (ts - 1) hlow
    have hsle := hs.le
    obtain ⟨a, ha, hQ2, hmin2⟩ := least (Q := fun a => ∀ u, a ≤ u → u < d → ∃ n : Nat, n < L.length ∧ pkM S nu de L u = n ∧ vitJ S L n = true ∧ (L.getD n default).D ≤ d) d (fun u h1 h2 => by omega)
    have full : ∀ u, ts ≤ u → u < d → ∀ n : Nat, pkM S nu de L u = n → dnM S nu de L u n < (L.getD n default).E := fun u h1 h2 n e => by
      obtain ⟨m, hm, e2, _, g, _⟩ := pk_high (hQ u h1 (by omega))
      obtain rfl : m = n := by omega
      exact g
    by_cases hats : ts < a
    · obtain ⟨m, hm, e, _, hmu, hmv, hbest⟩ := pk_high (hQ (a - 1) (by omega) (by omega))
      have hmD : (d : Int) < (L.getD m default).D := by
        apply Classical.byContradiction
        intro hle
        rcases hmin2 with h0 | hmin2
        · omega
        · apply hmin2
          intro u h1 h2
          by_cases hu : u = a - 1
          · subst hu; exact ⟨m, hm, e, hmv, by omega⟩
          · exact hQ2 u (by omega) h2
      have late : ∀ i, i < L.length → vitJ S L i = true → (L.getD i default).D ≤ d → (L.getD i default).R < a → (L.getD i default).E ≤ dnM S nu de L (a - 1) i := fun i hi hvi hDi hRi => by
        apply Classical.byContradiction
        intro hn
        have := hbest i hi hvi (by omega) (by omega)
        omega
      refine vit_full h ok ha (fun u h1 h2 => ?_) hj hv (by omega) ?_ hun
      · obtain ⟨n, hn, e2, hnv, hnD⟩ := hQ2 u h1 h2
        refine ⟨n, hn, e2, hnv, hnD, ?_⟩
        apply Classical.byContradiction
        intro hlt
        have h3 := late n hn hnv hnD (by omega)
        have h4 := mono n (a - 1) u (by omega)
        have h5 := full u (by omega) h2 n e2
        omega
      · apply Classical.byContradiction
        intro hlt
        have h3 := late j hj hv (by omega) (by omega)
        have h4 := mono j (a - 1) d (by omega)
        omega
    · have hrun : ∀ u, ts ≤ u → u < d → ∃ n : Nat, n < L.length ∧ pkM S nu de L u = n ∧ vitJ S L n = true ∧ (L.getD n default).D ≤ d := fun u h1 h2 => hQ2 u (by omega) h2
      rcases bestF_spec (fun i => decide (vitJ S L i = true ∧ (L.getD i default).D ≤ d ∧ (L.getD i default).R < ts ∧ dnM S nu de L ts i < (L.getD i default).E)) (fun i => (L.getD i default).R) L.length with ⟨_, g⟩ | ⟨b, _, hbl, hb2, hb3, _⟩
      · refine vit_full h ok hts (fun u h1 h2 => ?_) hj hv (by omega) ?_ hun
        · obtain ⟨n, hn, e2, hnv, hnD⟩ := hrun u h1 h2
          refine ⟨n, hn, e2, hnv, hnD, ?_⟩
          apply Classical.byContradiction
          intro hlt
          have h5 := full u h1 h2 n e2
          have h4 := mono n ts u h1
          exact of_decide_eq_false (g n hn) ⟨hnv, hnD, by omega, by omega⟩
        · apply Classical.byContradiction
          intro hlt
          have h4 := mono j ts d hts
          exact of_decide_eq_false (g j hj) ⟨hv, by omega, by omega, by omega⟩
      · obtain ⟨hbv, hbD, hbR, hbu⟩ := of_decide_eq_true hb2
        have hbat := h.at hbl
        obtain ⟨r1, hr1⟩ := Int.eq_ofNat_of_zero_le hbat.2.1.1
        have hsb : (s : Int) ≤ (L.getD b default).R := by
          apply Classical.byContradiction
          intro hlt
          have h1 := hs.past b hbl hbv (by omega)
          have h2 := mono b s ts (by omega)
          omega
        have least1 : ∀ i, i < L.length → vitJ S L i = true → (L.getD i default).D ≤ d → dnM S nu de L ts i < (L.getD i default).E → (r1 : Int) ≤ (L.getD i default).R := fun i hi hvi hDi hui => by
          by_cases hlt : (L.getD i default).R < ts
          · have := hb3 i hi (decide_eq_true ⟨hvi, hDi, hlt, hui⟩)
            omega
          · omega
        have hkb : mixKey S nu de L b ≤ r1 * de + ((d : Int) - r1) * nu := by
          unfold mixKey
          rw [if_pos hbv, hr1]
          have : (gM S (L.getD b default).T).P * nu ≤ ((d : Int) - r1) * nu := Int.mul_le_mul_of_nonneg_right (by omega) (by omega)
          omega
        obtain ⟨t0, hst0, ht0, hrunl⟩ := low_busy hs (t := ts) (by omega) (show s ≤ r1 by omega) (show r1 ≤ ts by omega) (κ := r1 * de + ((d : Int) - r1) * nu) (fun u h1 h2 => by
          have hlw := hs.low u (by omega) (by omega)
          have hm := mono b u ts (by omega)
          rcases pk_low hlw.1 with ⟨_, g⟩ | ⟨m, hm', e2, _, _, _, g⟩
          · have := g b hbl (.inl hbv) (by omega)
            omega
          · have := g b hbl (.inl hbv) (by omega) (by omega)
            exact ⟨m, hm', e2, by omega⟩)
        -- the two kinds
        have hkey2 : ∀ i, i < L.length → vitJ S L i = true → (r1 : Int) ≤ (L.getD i default).R → mixKey S nu de L i ≤ r1 * de + ((d : Int) - r1) * nu → (L.getD i default).D ≤ d := fun i hi hvi hri hk => by
          have hai := h.at hi
          unfold mixKey at hk
          rw [if_pos hvi] at hk
          have g1 : ((L.getD i default).R - r1) * nu ≤ ((L.getD i default).R - r1) * de := Int.mul_le_mul_of_nonneg_left hpos.2 (by omega)
          have g2 : ((L.getD i default).R - r1 + (gM S (L.getD i default).T).P) * nu ≤ ((d : Int) - r1) * nu := by
            rw [Int.add_mul]
            rw [Int.sub_mul _ _ de] at g1
            omega
          have g3 := Int.le_of_mul_le_mul_right g2 hpos.1
          omega
        have w12 := busy_work (S := S) (nu := nu) (de := de) (L := L) (P := fun i => decide ((t0 : Int) ≤ (L.getD i default).R ∧ mixKey S nu de L i ≤ r1 * de + ((d : Int) - r1) * nu ∧ (vitJ S L i = true → (L.getD i default).R < r1)) || decide (vitJ S L i = true ∧ (r1 : Int) ≤ (L.getD i default).R ∧ (L.getD i default).D ≤ d)) (show t0 ≤ ts by omega) (fun u h1 h2 => by
          obtain ⟨n, hn, e, h3, h4⟩ := hrunl u h1 h2
          refine ⟨n, hn, e, ?_⟩
          rw [Bool.or_eq_true, decide_eq_true_iff, decide_eq_true_iff]
          by_cases hx : vitJ S L n = true ∧ (r1 : Int) ≤ (L.getD n default).R
          · exact .inr ⟨hx.1, hx.2, hkey2 n hn hx.1 hx.2 h3⟩
          · exact .inl ⟨h4, h3, fun hvn => by
              apply Classical.byContradiction
              intro hge
              exact hx ⟨hvn, by omega⟩⟩)
        have w2 := busy_work (S := S) (nu := nu) (de := de) (L := L) (P := fun i => decide (vitJ S L i = true ∧ (r1 : Int) ≤ (L.getD i default).R ∧ (L.getD i default).D ≤ d)) hts (fun u h1 h2 => by
          obtain ⟨n, hn, e2, hnv, hnD⟩ := hrun u h1 h2
          have h5 := full u h1 h2 n e2
          have h4 := mono n ts u h1
          exact ⟨n, hn, e2, decide_eq_true ⟨hnv, least1 n hn hnv hnD (by omega), hnD⟩⟩)
        have hor : ∀ f : Nat → Int, work (fun i => decide ((t0 : Int) ≤ (L.getD i default).R ∧ mixKey S nu de L i ≤ r1 * de + ((d : Int) - r1) * nu ∧ (vitJ S L i = true → (L.getD i default).R < r1)) || decide (vitJ S L i = true ∧ (r1 : Int) ≤ (L.getD i default).R ∧ (L.getD i default).D ≤ d)) f L.length =
            work (fun i => decide ((t0 : Int) ≤ (L.getD i default).R ∧ mixKey S nu de L i ≤ r1 * de + ((d : Int) - r1) * nu ∧ (vitJ S L i = true → (L.getD i default).R < r1))) f L.length + work (fun i => decide (vitJ S L i = true ∧ (r1 : Int) ≤ (L.getD i default).R ∧ (L.getD i default).D ≤ d)) f L.length := fun f => by
          refine sumI_add fun i hi => ?_
          by_cases g1 : vitJ S L i = true ∧ (r1 : Int) ≤ (L.getD i default).R ∧ (L.getD i default).D ≤ d
          · rw [if_pos (by rw [Bool.or_eq_true, decide_eq_true_iff, decide_eq_true_iff]; exact .inr g1), if_neg (by rw [decide_eq_true_iff]; rintro ⟨_, _, g2⟩; have := g2 g1.1; omega), if_pos (decide_eq_true g1)]; omega
          · by_cases g2 : (t0 : Int) ≤ (L.getD i default).R ∧ mixKey S nu de L i ≤ r1 * de + ((d : Int) - r1) * nu ∧ (vitJ S L i = true → (L.getD i default).R < r1)
            · rw [if_pos (by rw [Bool.or_eq_true, decide_eq_true_iff, decide_eq_true_iff]; exact .inl g2), if_pos (decide_eq_true g2), if_neg (by rw [decide_eq_true_iff]; exact g1)]; omega
            · rw [if_neg (by rw [Bool.or_eq_true, decide_eq_true_iff, decide_eq_true_iff]; rintro (g | g); exact g2 g; exact g1 g), if_neg (by rw [decide_eq_true_iff]; exact g2), if_neg (by rw [decide_eq_true_iff]; exact g1)]; rfl
        rw [hor, hor] at w12
        have z1 : work (fun i => decide ((t0 : Int) ≤ (L.getD i default).R ∧ mixKey S nu de L i ≤ r1 * de + ((d : Int) - r1) * nu ∧ (vitJ S L i = true → (L.getD i default).R < r1))) (dnM S nu de L t0) L.length = 0 := sumI_zero fun i hi => by
          split
          · rename_i hwi
            exact dn_zero hi (of_decide_eq_true hwi).1
          · rfl
        have z2 : work (fun i => decide (vitJ S L i = true ∧ (r1 : Int) ≤ (L.getD i default).R ∧ (L.getD i default).D ≤ d)) (dnM S nu de L t0) L.length = 0 := sumI_zero fun i hi => by
          split
          · rename_i hwi
            have := (of_decide_eq_true hwi).2.1
            exact dn_zero hi (by omega)
          · rfl
        rw [z1, z2] at w12
        have cast : ∀ i, i < L.length → (((L.getD i default).T.toNat : Nat) : Int) = (L.getD i default).T := fun i hi => Int.toNat_of_nonneg (h.at hi).1.1
        have b1 := work_task h (P := fun i => decide ((t0 : Int) ≤ (L.getD i default).R ∧ mixKey S nu de L i ≤ r1 * de + ((d : Int) - r1) * nu ∧ (vitJ S L i = true → (L.getD i default).R < r1))) (f := dnM S nu de L ts) (B := fun k => (gM S k).Lo) (fun i hi hPi => by
          rw [cast i hi]
          have h1 := (of_decide_eq_true hPi).1
          have := low_done h hs hi (by omega) (ts - s) (by omega)
          rwa [show s + (ts - s) = ts by omega] at this)
        have hjr : (r1 : Int) ≤ (L.getD j default).R := least1 j hj hv (by omega) (by have := mono j ts d hts; omega)
        have b2 := work_task_lt h (P := fun i => decide (vitJ S L i = true ∧ (r1 : Int) ≤ (L.getD i default).R ∧ (L.getD i default).D ≤ d)) (f := dnM S nu de L d) (B := fun k => (gM S k).Hi) (fun i hi _ => by
          rw [cast i hi]
          exact Int.le_trans (dn_le h hi d) (h.at hi).2.2.1.2) hj (decide_eq_true ⟨hv, hjr, by omega⟩) (by
          rw [cast j hj]
          exact Int.lt_of_lt_of_le hun hat.2.2.1.2)
        have hdm := two_demand h ok (show t0 ≤ r1 by omega) (show r1 ≤ d by omega) (P1 := fun i => decide ((t0 : Int) ≤ (L.getD i default).R ∧ mixKey S nu de L i ≤ r1 * de + ((d : Int) - r1) * nu ∧ (vitJ S L i = true → (L.getD i default).R < r1)))
          (P2 := fun i => decide (vitJ S L i = true ∧ (r1 : Int) ≤ (L.getD i default).R ∧ (L.getD i default).D ≤ d)) (fun i hi hP => of_decide_eq_true hP) (fun i hi hP => of_decide_eq_true hP)
        rw [sumI_add (h := fun k : Nat => cntQ L k (fun i => decide ((t0 : Int) ≤ (L.getD i default).R ∧ mixKey S nu de L i ≤ r1 * de + ((d : Int) - r1) * nu ∧ (vitJ S L i = true → (L.getD i default).R < r1))) * (gM S k).Lo + cntQ L k (fun i => decide (vitJ S L i = true ∧ (r1 : Int) ≤ (L.getD i default).R ∧ (L.getD i default).D ≤ d)) * (gM S k).Hi) (fun i _ => rfl)] at hdm
        omega
theorem mix_late (h : mixLegal S L) (ok : ScaleOk S nu de) {i : Nat} (hi : i < L.length) (hl : lateAt L (mixFin S nu de L) i = true) : vitJ S L i = false := by
  cases hv : vitJ S L i with
  | false => rfl
  | true =>
    exfalso
    have hat := h.at hi
    have hok := hat.2.2.2.2
    unfold MTask.ok at hok
    rw [mixFin_q] at hl
    obtain ⟨h1, h2⟩ := (late_iff (mix_fair S nu de L) (mix_E h) hi (by omega)).1 hl
    obtain ⟨d, hd⟩ := Int.eq_ofNat_of_zero_le (show 0 ≤ (L.getD i default).D by omega)
    rw [hd, Int.toNat_natCast] at h2
    have h3 := mix_vital h ok hi hv hd
    have h4 : dnM S nu de L d i < (L.getD i default).E := h2
    omega
end
end Go.Ds
