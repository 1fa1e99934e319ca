/- The plain law: earliest deadline first: its choice; its past. Definitions in plain Lean; no program in sight. -/
import Derived.Test.YtgnlibnnpipbhaaM6
namespace Go.Ds

theorem gI_row' {l : List Int} {k : Nat} (h : k < l.length) : gI l k = l[k] := by simp [gI, List.getD_eq_getElem?_getD, h]

theorem simU_done_neg {L : List Job} {pick : Nat → List Int → Int} {k : Nat} (h : pick k (simU L pick k).done < 0) : (simU L pick (k + 1)).done = (simU L pick k).done := by
  rw [simU_succ]; simp [tick, h]
theorem simU_done_pos {L : List Job} {pick : Nat → List Int → Int} {k n : Nat} (h : pick k (simU L pick k).done = n) : (simU L pick (k + 1)).done = (simU L pick k).done.set n (gI (simU L pick k).done n + 1) := by
  have hneg : ¬ (n : Int) < 0 := by omega
  rw [simU_succ]; simp [tick, h, hneg]

/-- The choice of a tick, by the least key. -/
theorem choice {L : List Job} {key : Nat → Int} {pick : Nat → List Int → Int} (hp : ∀ now done, pick now done = bestF L.length (readyJ L done now) key) (hE : ∀ j ∈ L, 1 ≤ j.E) (k : Nat) (hk : k ≤ 200) :
    (pick k (simU L pick k).done = -1 ∧ ∀ j (hj : j < L.length) (hd : j < (simU L pick k).done.length), L[j].R ≤ k → (simU L pick k).done[j] = L[j].E) ∨
    ∃ n : Nat, ∃ hn : n < L.length, ∃ hd : n < (simU L pick k).done.length, pick k (simU L pick k).done = n ∧ (0 ≤ (simU L pick k).done[n] ∧ (simU L pick k).done[n] ≤ 200) ∧
      ∀ j (hj : j < L.length) (hd : j < (simU L pick k).done.length), L[j].R ≤ k → (simU L pick k).done[j] = L[j].E ∨ j = n ∨ (key n ≤ key j ∧ (j < n → key n < key j)) := by
  have hf : Fair L pick := fun now done => by rw [hp]; exact best_fair fun _ h => h
  have hlen := (simU_lens (L := L) (pick := pick) k).1
  have rdy : ∀ j (hj : j < L.length) (hd : j < (simU L pick k).done.length), L[j].R ≤ k → (simU L pick k).done[j] = L[j].E ∨ readyJ L (simU L pick k).done k j = true := by
    intro j hj hd hr
    have h1 := (runInv hf hE k j hj).le
    have gL : L.getD j default = L[j] := by simp [List.getD_eq_getElem?_getD, hj]
    rw [gL, gI_row' hd] at h1
    by_cases e : (simU L pick k).done[j] = L[j].E
    · exact .inl e
    · refine .inr ?_
      unfold readyJ
      rw [gL, gI_row' hd]
      exact decide_eq_true ⟨hr, by omega⟩
  rcases bestF_spec (readyJ L (simU L pick k).done k) key L.length with ⟨e, h⟩ | ⟨n, e, hn, hok, h1, h2⟩
  · refine .inl ⟨(hp _ _).trans e, fun j hj hd hr => ?_⟩
    rcases rdy j hj hd hr with h3 | h3
    · exact h3
    · rw [h j hj] at h3; cases h3
  · have hd : n < (simU L pick k).done.length := by omega
    have hb := sim_done (L := L) (pick := fun _ now done => (pick now done, ())) (s0 := ()) (fun _ now done => (hf.lt now done).2) k n hn
    change 0 ≤ gI (simU L pick k).done n ∧ gI (simU L pick k).done n ≤ k at hb
    rw [gI_row' hd] at hb
    refine .inr ⟨n, hn, hd, (hp _ _).trans e, ⟨hb.1, by omega⟩, fun j hj hdj hr => ?_⟩
    rcases rdy j hj hdj hr with h3 | h3
    · exact .inl h3
    · exact .inr (.inr ⟨h1 j hj h3, fun hjn => h2 j hjn h3⟩)

theorem bestF_cut {ok : Nat → Bool} {key : Nat → Int} {i : Nat} : ∀ {n : Nat}, i ≤ n → (∀ j, i ≤ j → j < n → ok j = false) → bestF n ok key = bestF i ok key
  | 0, h, _ => by rw [show i = 0 by omega]
  | n + 1, h, hh => by
    rcases Nat.lt_or_ge n i with h1 | h1
    · rw [show i = n + 1 by omega]
    · rw [bestF_succ, if_neg (fun g => by rw [hh n h1 (by omega)] at g; cases g.1)]
      exact bestF_cut h1 fun j h2 h3 => hh j h2 (by omega)

theorem bestF_congr' {ok ok' : Nat → Bool} {key key' : Nat → Int} : ∀ {n : Nat}, (∀ i, i < n → ok i = ok' i) → (∀ i, i < n → key i = key' i) → bestF n ok key = bestF n ok' key'
  | 0, _, _ => rfl
  | n + 1, h1, h2 => by
    have ih := bestF_congr' (n := n) (fun i hi => h1 i (by omega)) (fun i hi => h2 i (by omega))
    have hb := bestF_range ok' key' n
    rw [bestF_succ, bestF_succ, ih, h1 n (by omega), h2 n (by omega)]
    by_cases h0 : bestF n ok' key' < 0
    · simp [h0]
    · rw [h2 _ (show (bestF n ok' key').toNat < n + 1 by omega)]

theorem legal_R {S : List Task} {L : List Job} (h : jobsLegal S L) {i : Nat} : ∀ {j : Nat} (hj : j < L.length) (hij : i ≤ j), (L[i]'(by omega)).R ≤ L[j].R
  | 0, hj, hij => by simp [show i = 0 by omega]
  | j + 1, hj, hij => by
    rcases Nat.lt_or_ge i (j + 1) with h1 | h1
    · have ih := legal_R h (i := i) (j := j) (by omega) (by omega)
      have := (h.2.1.2 (j + 1) hj).2.2.2 (by omega)
      unfold before at this
      simp only [Nat.add_sub_cancel] at this
      omega
    · have : i = j + 1 := by omega
      subst this; exact Int.le_refl _

theorem legal_take {S : List Task} {L : List Job} (h : jobsLegal S L) (i : Nat) : jobsLegal S (L.take i) := by
  obtain ⟨h1, h2, h3, h4⟩ := h
  refine ⟨h1, ⟨by rw [List.length_take]; have := h2.1; omega, fun k hk => ?_⟩, fun k hk => ?_, fun j hj => h4 j (List.mem_of_mem_take hj)⟩
  · rw [List.length_take] at hk
    have := h2.2 k (by omega)
    simpa only [jrowAt, List.getElem_take] using this
  · rw [List.length_take] at hk
    have := h3 k (by omega)
    simp only [gapAt, List.getElem_take, List.take_take] at this ⊢
    rwa [Nat.min_eq_left (by omega)]

/-- The past of a run does not hang on what is released later. -/
theorem past {S : List Task} {L : List Job} (h : jobsLegal S L) {i : Nat} (hi : i < L.length) : ∀ m : Nat, (m : Int) ≤ L[i].R → (∀ j, j < i → gI (simU L (edfPick L) m).done j = gI (simU (L.take i) (edfPick (L.take i)) m).done j) ∧
    ((m : Int) < L[i].R → edfPick L m (simU L (edfPick L) m).done = edfPick (L.take i) m (simU (L.take i) (edfPick (L.take i)) m).done) := by
  have hlt : (L.take i).length = i := by rw [List.length_take]; omega
  have gL : ∀ j, j < i → (L.take i).getD j default = L.getD j default := fun j hj => by simp [List.getD_eq_getElem?_getD, List.getElem?_take, hj]
  have pk : ∀ m : Nat, (m : Int) < L[i].R → (∀ j, j < i → gI (simU L (edfPick L) m).done j = gI (simU (L.take i) (edfPick (L.take i)) m).done j) → edfPick L m (simU L (edfPick L) m).done = edfPick (L.take i) m (simU (L.take i) (edfPick (L.take i)) m).done := by
    intro m hm hd
    unfold edfPick
    rw [bestF_cut (i := i) (by omega), hlt]
    · refine bestF_congr' (fun j hj => ?_) fun j hj => by rw [gL j hj]
      unfold readyJ
      rw [gL j hj]
      have e := hd j hj
      unfold edfPick readyJ at e
      rw [hlt] at e
      rw [e]
    · intro j h1 h2
      refine decide_eq_false fun hh => ?_
      have := legal_R h h2 h1
      rw [show L.getD j default = L[j] from by simp [List.getD_eq_getElem?_getD, h2]] at hh
      omega
  intro m
  induction m with
  | zero =>
    intro hm
    have h0 : ∀ j, j < i → gI (simU L (edfPick L) 0).done j = gI (simU (L.take i) (edfPick (L.take i)) 0).done j := fun j hj => by
      rw [show gI (simU L (edfPick L) 0).done j = 0 from gI_rep _ _ _ (by omega), show gI (simU (L.take i) (edfPick (L.take i)) 0).done j = 0 from gI_rep _ _ _ (by omega)]
    exact ⟨h0, fun hl => pk 0 hl h0⟩
  | succ m ih =>
    intro hm
    obtain ⟨ih1, ih2⟩ := ih (by omega)
    have e := ih2 (by omega)
    have hd : ∀ j, j < i → gI (simU L (edfPick L) (m + 1)).done j = gI (simU (L.take i) (edfPick (L.take i)) (m + 1)).done j := by
      intro j hj
      rcases edf_fair (L.take i) m (simU (L.take i) (edfPick (L.take i)) m).done with e1 | ⟨n, e1, hn, _⟩
      · rw [simU_done_neg (by omega), simU_done_neg (by omega)]; exact ih1 j hj
      · rw [simU_done_pos (e.trans e1), simU_done_pos e1, gI_set, gI_set, ih1 j hj, ih1 n (by omega)]
        · rw [(simU_lens m).1]; exact hn
        · rw [(simU_lens m).1]; omega
    exact ⟨hd, fun hl => pk (m + 1) hl hd⟩
end Go.Ds
