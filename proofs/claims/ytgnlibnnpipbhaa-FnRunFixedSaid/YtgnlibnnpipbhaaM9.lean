/- The plain law: jobs of the lowest priority do not disturb the others. Definitions in plain Lean; no program in sight. -/
import Derived.Test.YtgnlibnnpipbhaaM8
namespace Go.Ds

section
variable {α : Type} (p : α → Bool)
/-- How many are kept among the first i. -/
def cnt (L : List α) (i : Nat) : Nat := ((L.take i).filter p).length
variable {p}
theorem cnt_yes {L : List α} {i : Nat} (h : i < L.length) (hp : p L[i] = true) : cnt p L (i + 1) = cnt p L i + 1 := by
  unfold cnt
  rw [List.take_succ_eq_append_getElem h, List.filter_append]; simp [hp]
theorem cnt_no {L : List α} {i : Nat} (h : i < L.length) (hp : p L[i] = false) : cnt p L (i + 1) = cnt p L i := by
  unfold cnt
  rw [List.take_succ_eq_append_getElem h, List.filter_append]; simp [hp]
theorem cnt_all (L : List α) : cnt p L L.length = (L.filter p).length := by unfold cnt; rw [List.take_length]
theorem cnt_mono {L : List α} {i : Nat} : ∀ {j : Nat}, i ≤ j → j ≤ L.length → cnt p L i ≤ cnt p L j
  | 0, h, _ => by rw [show i = 0 by omega]; exact Nat.le_refl _
  | j + 1, h, hj => by
    rcases Nat.lt_or_ge i (j + 1) with h1 | h1
    · have ih := cnt_mono (L := L) (i := i) (j := j) (by omega) (by omega)
      cases hp : p (L[j]'(by omega)) with
      | true => rw [cnt_yes (by omega) hp]; omega
      | false => rw [cnt_no (by omega) hp]; exact ih
    · rw [show i = j + 1 by omega]; exact Nat.le_refl _
theorem cnt_lt {L : List α} {i j : Nat} (hi : i < L.length) (hp : p L[i] = true) (hij : i < j) (hj : j ≤ L.length) : cnt p L i < cnt p L j := by
  have := cnt_mono (p := p) (L := L) (i := i + 1) hij hj
  rw [cnt_yes hi hp] at this; omega
theorem cnt_at {L : List α} {i : Nat} (hi : i < L.length) (hp : p L[i] = true) : ∃ h : cnt p L i < (L.filter p).length, (L.filter p)[cnt p L i] = L[i] := by
  have h1 : cnt p L i < (L.filter p).length := by rw [← cnt_all]; exact cnt_lt hi hp hi (Nat.le_refl _)
  refine ⟨h1, ?_⟩
  have e : L.filter p = (L.take i).filter p ++ L[i] :: (L.drop (i + 1)).filter p := by
    have : L = L.take i ++ L[i] :: L.drop (i + 1) := by rw [← List.drop_eq_getElem_cons hi, List.take_append_drop]
    conv => lhs; rw [this, List.filter_append]
    congr 1
    rw [List.filter_cons, if_pos hp]
  have : (L.filter p)[cnt p L i]? = some L[i] := by
    rw [e, List.getElem?_append_right (by unfold cnt; omega)]
    simp [cnt]
  rw [List.getElem?_eq_getElem h1] at this
  simpa using this
theorem cnt_surj {L : List α} : ∀ {m k : Nat}, m ≤ L.length → k < cnt p L m → ∃ i, ∃ h : i < L.length, i < m ∧ p L[i] = true ∧ cnt p L i = k
  | 0, k, _, h => by simp [cnt] at h
  | m + 1, k, hm, h => by
    cases hp : p (L[m]'(by omega)) with
    | true =>
      rw [cnt_yes (by omega) hp] at h
      rcases Nat.lt_succ_iff_lt_or_eq.1 h with h1 | h1
      · obtain ⟨i, hi, h2, h3, h4⟩ := cnt_surj (by omega) h1
        exact ⟨i, hi, by omega, h3, h4⟩
      · exact ⟨m, by omega, by omega, hp, h1.symm⟩
    | false =>
      rw [cnt_no (by omega) hp] at h
      obtain ⟨i, hi, h2, h3, h4⟩ := cnt_surj (by omega) h
      exact ⟨i, hi, by omega, h3, h4⟩
end

theorem best_unique {n : Nat} {ok : Nat → Bool} {key : Nat → Int} {k : Nat} (hk : k < n) (hok : ok k = true) (h1 : ∀ i, i < n → ok i = true → key k ≤ key i) (h2 : ∀ i, i < k → ok i = true → key k < key i) : bestF n ok key = k := by
  rcases bestF_spec ok key n with ⟨_, h⟩ | ⟨m, e, hm, hokm, g1, g2⟩
  · rw [h k hk] at hok; cases hok
  · rw [e]
    rcases Nat.lt_trichotomy m k with h3 | h3 | h3
    · have := h2 m h3 hokm; have := g1 k hk hok; omega
    · rw [h3]
    · have := g2 k h3 hok; have := h1 m hm hokm; omega
theorem best_none {n : Nat} {ok : Nat → Bool} {key : Nat → Int} (h : ∀ i, i < n → ok i = false) : bestF n ok key = -1 := by
  rcases bestF_spec ok key n with ⟨e, _⟩ | ⟨m, e, hm, hokm, _⟩
  · exact e
  · rw [h m hm] at hokm; cases hokm

theorem simU_fin_pos {L : List Job} {pick : Nat → List Int → Int} {k n : Nat} (h : pick k (simU L pick k).done = n) : (simU L pick (k + 1)).fin = if gI (simU L pick k).done n + 1 = (L.getD n default).E then (simU L pick k).fin.set n (k + 1) else (simU L pick k).fin := by
  have hneg : ¬ (n : Int) < 0 := by omega
  rw [simU_succ]; simp [tick, h, hneg]
theorem simU_fin_neg {L : List Job} {pick : Nat → List Int → Int} {k : Nat} (h : pick k (simU L pick k).done < 0) : (simU L pick (k + 1)).fin = (simU L pick k).fin := by
  rw [simU_succ]; simp [tick, h]

/-- Two simulations side by side: over all jobs, and over those that are kept. -/
theorem kept {L : List Job} {p : Job → Bool} {key : Job → Int} {pick pick' : Nat → List Int → Int} (hp : ∀ now done, pick now done = bestF L.length (readyJ L done now) fun i => key (L.getD i default))
    (hp' : ∀ now done, pick' now done = bestF (L.filter p).length (readyJ (L.filter p) done now) fun i => key ((L.filter p).getD i default)) (hkey : ∀ a ∈ L, ∀ b ∈ L, p a = true → p b = false → key a < key b) :
    ∀ (m i : Nat) (hi : i < L.length), p L[i] = true → gI (simU L pick m).done i = gI (simU (L.filter p) pick' m).done (cnt p L i) ∧ gI (simU L pick m).fin i = gI (simU (L.filter p) pick' m).fin (cnt p L i)
  | 0, i, hi, hpi => by
    obtain ⟨h1, _⟩ := cnt_at hi hpi
    rw [show gI (simU L pick 0).done i = 0 from gI_rep _ _ _ hi, show gI (simU (L.filter p) pick' 0).done (cnt p L i) = 0 from gI_rep _ _ _ h1, show gI (simU L pick 0).fin i = -1 from gI_rep _ _ _ hi, show gI (simU (L.filter p) pick' 0).fin (cnt p L i) = -1 from gI_rep _ _ _ h1]
    exact ⟨rfl, rfl⟩
  | m + 1, i, hi, hpi => by
    have ih := kept hp hp' hkey m
    obtain ⟨h1, h2⟩ := cnt_at hi hpi
    have gL : ∀ j (hj : j < L.length), L.getD j default = L[j] := fun j hj => by simp [List.getD_eq_getElem?_getD, hj]
    have gF : ∀ j (hj : j < (L.filter p).length), (L.filter p).getD j default = (L.filter p)[j] := fun j hj => by simp [List.getD_eq_getElem?_getD, hj]
    have ready : ∀ j (hj : j < L.length), p L[j] = true → readyJ L (simU L pick m).done m j = readyJ (L.filter p) (simU (L.filter p) pick' m).done m (cnt p L j) := by
      intro j hj hpj
      obtain ⟨g1, g2⟩ := cnt_at hj hpj
      unfold readyJ
      rw [gL j hj, gF _ g1, g2, (ih j hj hpj).1]
    have l1 := simU_lens (L := L) (pick := pick) m
    have l2 := simU_lens (L := L.filter p) (pick := pick') m
    rcases bestF_spec (readyJ L (simU L pick m).done m) (fun i => key (L.getD i default)) L.length with ⟨e, h⟩ | ⟨n, e, hn, hok, b1, b2⟩
    · -- none is ready
      have e1 := (hp m (simU L pick m).done).trans e
      have e2 : pick' m (simU (L.filter p) pick' m).done = -1 := by
        rw [hp']
        refine best_none fun k hk => ?_
        obtain ⟨j, hj, _, hpj, rfl⟩ := cnt_surj (p := p) (L := L) (Nat.le_refl _) (by rw [cnt_all]; exact hk)
        rw [← ready j hj hpj]; exact h j hj
      rw [simU_done_neg (by omega), simU_fin_neg (by omega), simU_done_neg (by omega), simU_fin_neg (by omega)]
      exact ih i hi hpi
    · have e1 := (hp m (simU L pick m).done).trans e
      cases hpn : p L[n] with
      | true =>
        obtain ⟨g1, g2⟩ := cnt_at hn hpn
        have e2 : pick' m (simU (L.filter p) pick' m).done = (cnt p L n : Nat) := by
          rw [hp']
          refine best_unique g1 (by rw [← ready n hn hpn]; exact hok) (fun k hk hrk => ?_) fun k hk hrk => ?_
          · obtain ⟨j, hj, _, hpj, rfl⟩ := cnt_surj (p := p) (L := L) (Nat.le_refl _) (by rw [cnt_all]; exact hk)
            obtain ⟨g3, g4⟩ := cnt_at hj hpj
            rw [gF _ g1, gF _ g3, g2, g4, ← gL n hn, ← gL j hj]
            exact b1 j hj (by rw [ready j hj hpj]; exact hrk)
          · obtain ⟨j, hj, _, hpj, rfl⟩ := cnt_surj (p := p) (L := L) (Nat.le_refl _) (show k < cnt p L L.length by rw [cnt_all]; omega)
            obtain ⟨g3, g4⟩ := cnt_at hj hpj
            have hjn : j < n := by
              rcases Nat.lt_or_ge j n with h3 | h3
              · exact h3
              · have := cnt_mono (p := p) h3 (by omega : j ≤ L.length); omega
            rw [gF _ g1, gF _ g3, g2, g4, ← gL n hn, ← gL j hj]
            exact b2 j hjn (by rw [ready j hj hpj]; exact hrk)
        have en := (ih n hn hpn).1
        have ei := ih i hi hpi
        rw [simU_done_pos e1, simU_fin_pos e1, simU_done_pos e2, simU_fin_pos e2, gI_set (by omega), gI_set (by omega), gL n hn, gF _ g1, g2, ← en]
        have hinj : n = i ↔ cnt p L n = cnt p L i := by
          constructor
          · rintro rfl; rfl
          · intro hc
            rcases Nat.lt_trichotomy n i with h3 | h3 | h3
            · have := cnt_lt hn hpn h3 (by omega); omega
            · exact h3
            · have := cnt_lt hi hpi h3 (by omega); omega
        by_cases h3 : n = i
        · have h4 := hinj.1 h3
          subst h3
          refine ⟨by simp, ?_⟩
          split
          · rw [gI_set (by omega), gI_set (by omega)]; simp
          · exact ei.2
        · have h4 : ¬ cnt p L n = cnt p L i := fun hc => h3 (hinj.2 hc)
          refine ⟨by rw [if_neg h3, if_neg h4]; exact ei.1, ?_⟩
          split
          · rw [gI_set (by omega), gI_set (by omega), if_neg h3, if_neg h4]; exact ei.2
          · exact ei.2
      | false =>
        have e2 : pick' m (simU (L.filter p) pick' m).done = -1 := by
          rw [hp']
          refine best_none fun k hk => ?_
          obtain ⟨j, hj, _, hpj, rfl⟩ := cnt_surj (p := p) (L := L) (Nat.le_refl _) (by rw [cnt_all]; exact hk)
          rw [← ready j hj hpj]
          cases hr : readyJ L (simU L pick m).done m j with
          | false => rfl
          | true =>
            have := b1 j hj hr
            rw [gL n hn, gL j hj] at this
            have := hkey _ (List.getElem_mem hj) _ (List.getElem_mem hn) hpj hpn
            omega
        have hni : n ≠ i := fun h3 => by subst h3; rw [hpi] at hpn; cases hpn
        have ei := ih i hi hpi
        rw [simU_done_pos e1, simU_fin_pos e1, simU_done_neg (by omega), simU_fin_neg (by omega), gI_set (by omega), if_neg hni]
        refine ⟨ei.1, ?_⟩
        split
        · rw [gI_set (by omega), if_neg hni]; exact ei.2
        · exact ei.2

theorem cnt_take {α : Type} {p : α → Bool} (L : List α) (i : Nat) : (L.filter p).take (cnt p L i) = (L.take i).filter p := by
  conv => lhs; rw [← List.take_append_drop i L, List.filter_append]
  rw [List.take_append_drop]
  exact List.take_left' rfl

def notT (low : Int) (j : Job) : Bool := decide (j.T ≠ low)

theorem lastAt_filter (at_ : Job → Int) {low u : Int} (hu : u ≠ low) (M : List Job) : lastAt at_ (M.filter (notT low)) u = lastAt at_ M u := by
  have key : ∀ (M : List Job) (f g : Int → Option Int), f u = g u → (M.filter (notT low)).foldl (fun f j => fun u => if u = j.T then some (at_ j) else f u) f u = M.foldl (fun f j => fun u => if u = j.T then some (at_ j) else f u) g u := by
    intro M
    induction M with
    | nil => intro f g h; exact h
    | cons j M ih =>
      intro f g h
      by_cases hj : j.T = low
      · rw [List.filter_cons, if_neg (by simp [notT, hj]), List.foldl_cons]
        refine ih _ _ ?_
        try simp only
        rw [if_neg (fun e => hu (e.trans hj))]
        exact h
      · rw [List.filter_cons, if_pos (by simp [notT, hj]), List.foldl_cons, List.foldl_cons]
        refine ih _ _ ?_
        simp only [h]
  exact key M _ _ rfl

theorem legal_before {S : List Task} {L : List Job} (h : jobsLegal S L) {i : Nat} : ∀ {j : Nat} (hj : j < L.length) (hij : i < j), before (L[i]'(by omega)) L[j]
  | 0, _, h => absurd h (by omega)
  | j + 1, hj, hij => by
    have hb := (h.2.1.2 (j + 1) hj).2.2.2 (by omega)
    simp only [Nat.add_sub_cancel] at hb
    rcases Nat.lt_succ_iff_lt_or_eq.1 hij with h1 | h1
    · have ih := legal_before h (i := i) (j := j) (by omega) h1
      unfold before at ih hb ⊢
      omega
    · subst h1; exact hb

theorem legal_filter {S : List Task} {L : List Job} (h : jobsLegal S L) (low : Int) : jobsLegal S (L.filter (notT low)) := by
  refine ⟨h.1, ⟨Nat.le_trans (List.length_filter_le _ _) h.2.1.1, fun k hk => ?_⟩, fun k hk => ?_, fun j hj => h.2.2.2 j (List.mem_filter.1 hj).1⟩
  · obtain ⟨i, hi, _, hpi, rfl⟩ := cnt_surj (p := notT low) (L := L) (Nat.le_refl _) (show k < cnt (notT low) L L.length by rw [cnt_all]; exact hk)
    obtain ⟨g1, g2⟩ := cnt_at hi hpi
    obtain ⟨r1, r2, r3, _⟩ := h.2.1.2 i hi
    unfold jrowAt
    rw [g2]
    refine ⟨r1, r2, r3, fun h0 => ?_⟩
    obtain ⟨j, hj, _, hpj, hc⟩ := cnt_surj (p := notT low) (L := L) (Nat.le_refl _) (show cnt (notT low) L i - 1 < cnt (notT low) L L.length by rw [cnt_all]; omega)
    obtain ⟨g3, g4⟩ := cnt_at hj hpj
    have hji : j < i := by
      rcases Nat.lt_or_ge j i with h3 | h3
      · exact h3
      · have := cnt_mono (p := notT low) h3 (by omega : j ≤ L.length); omega
    have e : (L.filter (notT low))[cnt (notT low) L i - 1]'(by omega) = L[j] := by
      rw [← g4]; congr 1; exact hc.symm
    rw [e]
    exact legal_before h hi hji
  · obtain ⟨i, hi, _, hpi, rfl⟩ := cnt_surj (p := notT low) (L := L) (Nat.le_refl _) (show k < cnt (notT low) L L.length by rw [cnt_all]; exact hk)
    obtain ⟨g1, g2⟩ := cnt_at hi hpi
    unfold gapAt
    rw [g2, cnt_take, lastAt_filter _ (by simpa [notT] using hpi)]
    exact h.2.2.1 i hi
end Go.Ds
