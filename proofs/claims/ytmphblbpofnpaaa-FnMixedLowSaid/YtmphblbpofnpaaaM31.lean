import Derived.Test.YtmphblbpofnpaaaM30
namespace Go.Ds
theorem work_task {S : List MTask} {L : List Job} (h : mixLegal S L) {P : Nat → Bool} {f : Nat → Int} {B : Nat → Int} (hB : ∀ i, i < L.length → P i = true → f i ≤ B (L.getD i default).T.toNat) : work P f L.length ≤ sumI (fun k => cntQ L k P * B k) S.length := by
  have e : sumI (fun k : Nat => cntQ L k P * B k) S.length = sumI (fun i => if P i = true then B (L.getD i default).T.toNat else 0) L.length := by
    rw [sumI_task (f := fun i => if P i = true then B (L.getD i default).T.toNat else 0) (T := fun i => (L.getD i default).T) L.length (fun i hi => (h.at hi).1)]
    refine sumI_congr fun k hk => ?_
    unfold cntQ
    rw [← sumI_mul]
    refine sumI_congr fun i hi => ?_
    by_cases h1 : (L.getD i default).T = (k : Int)
    · rw [if_pos h1, h1, Int.toNat_natCast]
      by_cases h2 : P i = true
      · rw [if_pos ⟨rfl, h2⟩, if_pos h2, Int.one_mul]
      · rw [if_neg (fun g => h2 g.2), if_neg h2, Int.zero_mul]
    · rw [if_neg h1, if_neg (fun g => h1 g.1), Int.zero_mul]
  rw [e]
  refine sumI_le fun i hi => ?_
  split
  · rename_i h1; exact hB i hi h1
  · exact Int.le_refl _
theorem work_task_lt {S : List MTask} {L : List Job} (h : mixLegal S L) {P : Nat → Bool} {f : Nat → Int} {B : Nat → Int} (hB : ∀ i, i < L.length → P i = true → f i ≤ B (L.getD i default).T.toNat) {j : Nat} (hj : j < L.length) (hP : P j = true) (hlt : f j < B (L.getD j default).T.toNat) :
    work P f L.length < sumI (fun k => cntQ L k P * B k) S.length := by
  have h1 := work_task h (P := P) (f := fun i => f i + if i = j then 1 else 0) (B := B) (fun i hi hPi => by
    show f i + (if i = j then 1 else 0) ≤ B (L.getD i default).T.toNat
    by_cases e : i = j
    · subst e; rw [if_pos rfl]; omega
    · rw [if_neg e]; have := hB i hi hPi; omega)
  have h2 : work P (fun i => f i + if i = j then 1 else 0) L.length = work P f L.length + 1 := by
    unfold work
    rw [sumI_one (f := fun i => if P i = true then f i else 0) (j := j), if_pos hj]
    intro i _
    show (if P i = true then f i + (if i = j then 1 else 0) else 0) = _
    by_cases e : i = j
    · subst e; rw [if_pos hP, if_pos hP, if_pos rfl]
    · rw [if_neg e]
      split <;> omega
  omega
section
variable {S : List MTask} {nu de : Int} {L : List Job}
theorem dn_mono {i a b : Nat} (h : a ≤ b) : dnM S nu de L a i ≤ dnM S nu de L b i := done_mono' (mix_fair S nu de L) i h
theorem dn_zero {i k : Nat} (hi : i < L.length) (h : (k : Int) ≤ (L.getD i default).R) : dnM S nu de L k i = 0 := done_rel (mix_fair S nu de L) hi k h
theorem busy_work {P : Nat → Bool} {a b : Nat} (hab : a ≤ b) (h : ∀ t, a ≤ t → t < b → ∃ n : Nat, n < L.length ∧ pkM S nu de L t = n ∧ P n = true) :
    work P (dnM S nu de L b) L.length = work P (dnM S nu de L a) L.length + ((b : Int) - a) := by
  have := work_eq (L := L) (pick := mixQ S nu de L) (A := fun _ => true) (fun _ _ h => by cases h) P a (b - a) (fun t h1 h2 _ => by
    obtain ⟨n, hn, e, hP⟩ := h t h1 (by omega)
    exact ⟨n, e, hn, hP⟩)
  rw [free_all, show a + (b - a) = b by omega] at this
  have e : ((b - a : Nat) : Int) = (b : Int) - a := by omega
  rw [e] at this
  exact this
theorem low_busy {s k : Nat} (hs : Seg S nu de L s k) {t r : Nat} (htk : t ≤ k + 1) (hsr : s ≤ r) (hrt : r ≤ t) {κ : Int} (hall : ∀ u, r ≤ u → u < t → ∃ n : Nat, n < L.length ∧ pkM S nu de L u = n ∧ mixKey S nu de L n ≤ κ) :
    ∃ a, s ≤ a ∧ a ≤ r ∧ ∀ u, a ≤ u → u < t → ∃ n : Nat, n < L.length ∧ pkM S nu de L u = n ∧ mixKey S nu de L n ≤ κ ∧ (a : Int) ≤ (L.getD n default).R := by
  obtain ⟨a, ha, ⟨hsa, hQ⟩, hmin⟩ := least (Q := fun a => s ≤ a ∧ ∀ u, a ≤ u → u < t → ∃ n : Nat, n < L.length ∧ pkM S nu de L u = n ∧ mixKey S nu de L n ≤ κ) r ⟨hsr, hall⟩
  refine ⟨a, hsa, ha, fun u h1 h2 => ?_⟩
  obtain ⟨n, hn, e, hκ⟩ := hQ u h1 h2
  refine ⟨n, hn, e, hκ, ?_⟩
  apply Classical.byContradiction
  intro hlt
  have hlow := hs.low u (by omega) (by omega)
  obtain ⟨hel, hun⟩ : elig S L s n ∧ dnM S nu de L u n < (L.getD n default).E := by
    rcases pk_low hlow.1 with ⟨e2, _⟩ | ⟨m, hm, e2, g1, g2, g3, _⟩
    · omega
    · obtain rfl : m = n := by omega
      rw [hlow.2] at g3
      exact ⟨g3, g2⟩
  by_cases has : a = s
  · subst has
    rcases hel with hv | hv
    · have h3 := hs.past n hn hv (by omega)
      have h4 := dn_mono (S := S) (nu := nu) (de := de) (L := L) (i := n) h1
      omega
    · omega
  · rcases hmin with h0 | hmin
    · omega
    · apply hmin
      refine ⟨by omega, fun v h3 h4 => ?_⟩
      by_cases hv : v = a - 1
      · subst hv
        have hlow' := hs.low (a - 1) (by omega) (by omega)
        have h5 := dn_mono (S := S) (nu := nu) (de := de) (L := L) (i := n) (show a - 1 ≤ u by omega)
        rcases pk_low hlow'.1 with ⟨_, g⟩ | ⟨m, hm, e2, _, _, _, g⟩
        · have := g n hn (by rw [hlow'.2]; exact hel) (by omega)
          omega
        · have := g n hn (by rw [hlow'.2]; exact hel) (by omega) (by omega)
          exact ⟨m, hm, e2, by omega⟩
      · exact hQ v (by omega) h4
theorem key_demand (h : mixLegal S L) (ok : ScaleOk S nu de) {a : Nat} {κ : Int} (hκ : (a : Int) * de ≤ κ) {P : Nat → Bool} (hP : ∀ i, i < L.length → P i = true → (a : Int) ≤ (L.getD i default).R ∧ mixKey S nu de L i ≤ κ) :
    sumI (fun k => cntQ L k P * (gM S k).Lo) S.length * de ≤ κ - a * de := by
  have hpos := ok.pos
  have hd := demand h.1 ok (X := κ - a * de) (Z := 0) (by omega) (Int.le_refl _) (F := fun k => cntQ L k P * (gM S k).Lo) ?_ ?_
  · rw [Int.zero_mul, Int.add_zero, ← Int.mul_assoc, Int.mul_right_comm] at hd
    exact Int.le_of_mul_le_mul_right hd hpos.1
  · intro k hk hV
    have hok := gM_ok h.1 (show (0 : Int) ≤ k by omega) (show (k : Int) < S.length by omega)
    unfold MTask.ok at hok
    have hc := cntQ_nonneg L k P
    have key : cntQ L k P * (gM S k).P * nu ≤ κ - a * de := by
      have hk1 : ∀ i, i < L.length → (L.getD i default).T = (k : Int) → P i = true → (a : Int) ≤ (L.getD i default).R ∧ (L.getD i default).R ≤ (κ - (gM S k).P * nu) / de := fun i hi hT hPi => by
        obtain ⟨h1, h2⟩ := hP i hi hPi
        refine ⟨h1, ?_⟩
        rw [Int.le_ediv_iff_mul_le (by omega)]
        unfold mixKey vitJ at h2
        rw [hT, if_pos hV] at h2
        omega
      rcases cntQ_win h (k := k) ⟨by omega, by omega⟩ hk1 with h0 | ⟨h1, h2, h3⟩
      · rw [h0, Int.zero_mul, Int.zero_mul]; omega
      · have h4 := Int.ediv_mul_le (κ - (gM S k).P * nu) (show de ≠ 0 by omega)
        have e0 : (cntQ L k P - 1) * (gM S k).P = cntQ L k P * (gM S k).P - (gM S k).P := by rw [Int.sub_mul, Int.one_mul]
        have h8 : 0 ≤ (cntQ L k P - 1) * (gM S k).P := Int.mul_nonneg (by omega) (by omega)
        rw [e0] at h3 h8
        have h5 : (cntQ L k P * (gM S k).P - (gM S k).P) * nu ≤ (cntQ L k P * (gM S k).P - (gM S k).P) * de := Int.mul_le_mul_of_nonneg_left hpos.2 h8
        have h6 : (cntQ L k P * (gM S k).P - (gM S k).P) * de ≤ ((κ - (gM S k).P * nu) / de - a) * de := Int.mul_le_mul_of_nonneg_right h3 (by omega)
        rw [Int.sub_mul, Int.sub_mul] at h5 h6
        omega
    have h7 := Int.mul_le_mul_of_nonneg_right key (show 0 ≤ de * (gM S k).Lo from Int.mul_nonneg (by omega) (by omega))
    rw [Int.zero_mul, Int.add_zero]
    have e1 : cntQ L k P * (gM S k).Lo * (gM S k).P * (nu * de) = cntQ L k P * (gM S k).P * nu * (de * (gM S k).Lo) := by simp only [Int.mul_assoc, Int.mul_comm, Int.mul_left_comm]
    have e2 : de * ((κ - a * de) * (gM S k).Lo) = (κ - a * de) * (de * (gM S k).Lo) := Int.mul_left_comm ..
    rw [e1, e2]; exact h7
  · intro k hk hV
    have hok := gM_ok h.1 (show (0 : Int) ≤ k by omega) (show (k : Int) < S.length by omega)
    unfold MTask.ok at hok
    have hc := cntQ_nonneg L k P
    have key : cntQ L k P * (gM S k).P * de ≤ κ - a * de := by
      have hk1 : ∀ i, i < L.length → (L.getD i default).T = (k : Int) → P i = true → (a : Int) ≤ (L.getD i default).R ∧ (L.getD i default).R ≤ κ / de - (gM S k).P := fun i hi hT hPi => by
        obtain ⟨h1, h2⟩ := hP i hi hPi
        refine ⟨h1, ?_⟩
        unfold mixKey vitJ at h2
        rw [hT, if_neg (by rw [hV]; simp), (h.at hi).2.2.2.1, hT] at h2
        have := (Int.le_ediv_iff_mul_le (show 0 < de by omega)).2 h2
        omega
      rcases cntQ_win h (k := k) ⟨by omega, by omega⟩ hk1 with h0 | ⟨h1, h2, h3⟩
      · rw [h0, Int.zero_mul, Int.zero_mul]; omega
      · have h4 := Int.ediv_mul_le κ (show de ≠ 0 by omega)
        rw [Int.sub_mul, Int.one_mul] at h3
        have h6 : cntQ L k P * (gM S k).P * de ≤ (κ / de - a) * de := Int.mul_le_mul_of_nonneg_right (by omega) (by omega)
        rw [Int.sub_mul] at h6
        omega
    have h7 := Int.mul_le_mul_of_nonneg_right key (show 0 ≤ nu * (gM S k).Lo from Int.mul_nonneg (by omega) (by omega))
    rw [Int.add_zero]
    have e1 : cntQ L k P * (gM S k).Lo * (gM S k).P * (nu * de) = cntQ L k P * (gM S k).P * de * (nu * (gM S k).Lo) := by simp only [Int.mul_assoc, Int.mul_comm, Int.mul_left_comm]
    have e2 : nu * ((κ - a * de) * (gM S k).Lo) = (κ - a * de) * (nu * (gM S k).Lo) := Int.mul_left_comm ..
    rw [e1, e2]; exact h7
theorem low_key (h : mixLegal S L) (ok : ScaleOk S nu de) {s k : Nat} (hs : Seg S nu de L s k) {t : Nat} (htk : t ≤ k + 1) {j : Nat} (hj : j < L.length) (hsj : (s : Int) ≤ (L.getD j default).R) (hjt : (L.getD j default).R < t) (hun : dnM S nu de L (t - 1) j < (L.getD j default).E) :
    (t : Int) * de ≤ mixKey S nu de L j ∧ (dnM S nu de L t j < (gM S (L.getD j default).T).Lo → (t : Int) * de < mixKey S nu de L j) := by
  have hpos := ok.pos
  have hat := h.at hj
  obtain ⟨r, hr⟩ := Int.eq_ofNat_of_zero_le hat.2.1.1
  obtain ⟨a, hsa, har, hrun⟩ := low_busy hs htk (show s ≤ r by omega) (show r ≤ t by omega) (κ := mixKey S nu de L j) (fun u h1 h2 => by
    have hlow := hs.low u (by omega) (by omega)
    have hm := dn_mono (S := S) (nu := nu) (de := de) (L := L) (i := j) (show u ≤ t - 1 by omega)
    rcases pk_low hlow.1 with ⟨_, g⟩ | ⟨m, hm', e2, _, _, _, g⟩
    · have := g j hj (.inr (by rw [hlow.2]; exact hsj)) (by omega)
      omega
    · exact ⟨m, hm', e2, g j hj (.inr (by rw [hlow.2]; exact hsj)) (by omega) (by omega)⟩)
  have hP : ∀ i, decide ((a : Int) ≤ (L.getD i default).R ∧ mixKey S nu de L i ≤ mixKey S nu de L j) = true ↔ _ := fun i => decide_eq_true_iff
  have hw := busy_work (S := S) (nu := nu) (de := de) (L := L) (P := fun i => decide ((a : Int) ≤ (L.getD i default).R ∧ mixKey S nu de L i ≤ mixKey S nu de L j)) (show a ≤ t by omega) (fun u h1 h2 => by
    obtain ⟨n, hn, e, h3, h4⟩ := hrun u h1 h2
    exact ⟨n, hn, e, decide_eq_true ⟨h4, h3⟩⟩)
  have h0 : work (fun i => decide ((a : Int) ≤ (L.getD i default).R ∧ mixKey S nu de L i ≤ mixKey S nu de L j)) (dnM S nu de L a) L.length = 0 := sumI_zero fun i hi => by
    split
    · rename_i hwi
      exact dn_zero hi (of_decide_eq_true hwi).1
    · rfl
  rw [h0, Int.zero_add] at hw
  have hbd : ∀ i, i < L.length → decide ((a : Int) ≤ (L.getD i default).R ∧ mixKey S nu de L i ≤ mixKey S nu de L j) = true → dnM S nu de L t i ≤ (gM S ((L.getD i default).T.toNat : Nat)).Lo := fun i hi hPi => by
    have h1 := (of_decide_eq_true hPi).1
    have := low_done h hs hi (by omega) (t - s) (by omega)
    rw [show s + (t - s) = t by omega] at this
    rw [show (((L.getD i default).T.toNat : Nat) : Int) = (L.getD i default).T from Int.toNat_of_nonneg (h.at hi).1.1]
    exact this
  have hjP : decide ((a : Int) ≤ (L.getD j default).R ∧ mixKey S nu de L j ≤ mixKey S nu de L j) = true := decide_eq_true ⟨by omega, Int.le_refl _⟩
  have hkey : (a : Int) * de ≤ mixKey S nu de L j := by
    unfold mixKey
    have hok := hat.2.2.2.2
    unfold MTask.ok at hok
    have h1 : (a : Int) * de ≤ (L.getD j default).R * de := Int.mul_le_mul_of_nonneg_right (by omega) (by omega)
    have h2 : 0 ≤ (gM S (L.getD j default).T).P * nu := Int.mul_nonneg (by omega) (by omega)
    split
    · omega
    · rw [hat.2.2.2.1, Int.add_mul]
      have : 0 ≤ (gM S (L.getD j default).T).P * de := Int.mul_nonneg (by omega) (by omega)
      omega
  have hd := key_demand h ok hkey (P := fun i => decide ((a : Int) ≤ (L.getD i default).R ∧ mixKey S nu de L i ≤ mixKey S nu de L j)) (fun i hi hPi => of_decide_eq_true hPi)
  constructor
  · have h1 := work_task h (B := fun k => (gM S k).Lo) hbd
    rw [hw] at h1
    have h2 := Int.mul_le_mul_of_nonneg_right h1 (show 0 ≤ de by omega)
    rw [Int.sub_mul] at h2
    omega
  · intro hlt
    have h1 := work_task_lt h (B := fun k => (gM S k).Lo) hbd hj hjP (by
      rw [show (((L.getD j default).T.toNat : Nat) : Int) = (L.getD j default).T from Int.toNat_of_nonneg hat.1.1]
      exact hlt)
    rw [hw] at h1
    have h2 := Int.mul_lt_mul_of_pos_right h1 (show 0 < de by omega)
    rw [Int.sub_mul] at h2
    omega
end
end Go.Ds
