/- The plain law: earliest deadline first misses no deadline that any schedule meets. Definitions in plain Lean; no program in sight. -/
import Derived.Test.YtgnlibnnpipbhaaM7
namespace Go.Ds

/-- The sum of the first n values. -/
def sumI (f : Nat → Int) : Nat → Int
  | 0 => 0
  | n + 1 => sumI f n + f n

theorem sumI_le {f g : Nat → Int} : ∀ {n : Nat}, (∀ i, i < n → f i ≤ g i) → sumI f n ≤ sumI g n
  | 0, _ => Int.le_refl _
  | n + 1, h => by
    have ih := sumI_le (n := n) fun i hi => h i (by omega)
    have := h n (by omega)
    simp only [sumI]; omega
theorem sumI_congr {f g : Nat → Int} {n : Nat} (h : ∀ i, i < n → f i = g i) : sumI f n = sumI g n :=
  Int.le_antisymm (sumI_le fun i hi => by rw [h i hi]; exact Int.le_refl _) (sumI_le fun i hi => by rw [h i hi]; exact Int.le_refl _)
theorem sumI_lt {f g : Nat → Int} : ∀ {n : Nat}, (∀ i, i < n → f i ≤ g i) → ∀ {j : Nat}, j < n → f j < g j → sumI f n < sumI g n
  | 0, _, _, hj, _ => absurd hj (by omega)
  | n + 1, h, j, hj, hl => by
    simp only [sumI]
    have h1 := h n (by omega)
    rcases Nat.lt_succ_iff_lt_or_eq.1 hj with h2 | h2
    · have := sumI_lt (n := n) (fun i hi => h i (by omega)) h2 hl; omega
    · subst h2
      have := sumI_le (n := j) fun i hi => h i (by omega)
      omega
/-- One value grows by one. -/
theorem sumI_one {f g : Nat → Int} {j : Nat} : ∀ {n : Nat}, (∀ i, i < n → g i = f i + if i = j then 1 else 0) → sumI g n = sumI f n + if j < n then 1 else 0
  | 0, _ => rfl
  | n + 1, h => by
    have ih := sumI_one (n := n) fun i hi => h i (by omega)
    simp only [sumI]
    rw [ih, h n (by omega)]
    by_cases h1 : n = j
    · subst h1; simp; omega
    · by_cases h2 : j < n
      · rw [if_pos h2, if_neg h1, if_pos (by omega)]; omega
      · rw [if_neg h2, if_neg h1, if_neg (by omega)]; omega
theorem sumI_zero {f : Nat → Int} {n : Nat} (h : ∀ i, i < n → f i = 0) : sumI f n = 0 := by
  induction n with
  | zero => rfl
  | succ n ih => simp only [sumI]; rw [ih fun i hi => h i (by omega), h n (by omega)]; rfl

/-- How many ticks from a on, of m, are free. -/
def free (A : Nat → Bool) (a : Nat) : Nat → Int
  | 0 => 0
  | m + 1 => free A a m + if A (a + m) then 1 else 0
theorem free_le {A B : Nat → Bool} {a : Nat} : ∀ {m : Nat}, (∀ t, t < a + m → A t = true → B t = true) → free A a m ≤ free B a m
  | 0, _ => Int.le_refl _
  | m + 1, h => by
    have ih := free_le (a := a) (m := m) fun t ht => h t (by omega)
    have := h (a + m) (by omega)
    simp only [free]
    cases hA : A (a + m) with
    | true => rw [this hA]; simp; omega
    | false =>
      have h0 : (0 : Int) ≤ if B (a + m) = true then 1 else 0 := by split <;> decide
      rw [if_neg (by decide)]; omega
theorem free_all {a : Nat} : ∀ m : Nat, free (fun _ => true) a m = m
  | 0 => rfl
  | m + 1 => by simp only [free]; rw [free_all m]; simp

/-- A picker that picks in free ticks only. -/
def Only (A : Nat → Bool) (pick : Nat → List Int → Int) : Prop := ∀ now done, A now = false → pick now done = -1

def doneAt (L : List Job) (pick : Nat → List Int → Int) (k i : Nat) : Int := gI (simU L pick k).done i

section
variable {L : List Job} {pick : Nat → List Int → Int}
theorem done0 {i : Nat} (hi : i < L.length) : doneAt L pick 0 i = 0 := gI_rep _ _ _ hi
theorem done_neg {k : Nat} (h : pick k (simU L pick k).done < 0) (i : Nat) : doneAt L pick (k + 1) i = doneAt L pick k i := by unfold doneAt; rw [simU_done_neg h]
theorem done_pos {k n : Nat} (h : pick k (simU L pick k).done = n) (hn : n < L.length) (i : Nat) : doneAt L pick (k + 1) i = doneAt L pick k i + if i = n then 1 else 0 := by
  unfold doneAt
  rw [simU_done_pos h, gI_set (by rw [(simU_lens k).1]; exact hn)]
  by_cases e : n = i
  · subst e; simp
  · rw [if_neg e, if_neg (fun h => e h.symm)]; omega
theorem done_mono (hf : Fair L pick) (i : Nat) {a : Nat} : ∀ m : Nat, doneAt L pick a i ≤ doneAt L pick (a + m) i
  | 0 => Int.le_refl _
  | m + 1 => by
    refine Int.le_trans (done_mono hf i m) ?_
    rcases hf (a + m) (simU L pick (a + m)).done with e | ⟨n, e, hn, _⟩
    · rw [← Nat.add_assoc, done_neg (by omega)]; exact Int.le_refl _
    · rw [← Nat.add_assoc, done_pos e hn]; split <;> omega
theorem done_mono' (hf : Fair L pick) (i : Nat) {a b : Nat} (h : a ≤ b) : doneAt L pick a i ≤ doneAt L pick b i := by
  have := done_mono hf i (a := a) (b - a); rwa [show a + (b - a) = b by omega] at this
/-- A finished job stays as it is. -/
theorem done_full (hf : Fair L pick) (hE : ∀ j ∈ L, 1 ≤ j.E) {i a b : Nat} (hi : i < L.length) (h : a ≤ b) (hd : doneAt L pick a i = (L.getD i default).E) : doneAt L pick b i = (L.getD i default).E := by
  have h1 := done_mono' hf i h
  have h2 : doneAt L pick b i ≤ _ := (runInv hf hE b i hi).le
  omega
/-- Nothing runs before its release. -/
theorem done_rel (hf : Fair L pick) {i : Nat} (hi : i < L.length) : ∀ k : Nat, (k : Int) ≤ (L.getD i default).R → doneAt L pick k i = 0
  | 0, _ => done0 hi
  | k + 1, h => by
    have ih := done_rel hf hi k (by omega)
    rcases hf k (simU L pick k).done with e | ⟨n, e, hn, hr⟩
    · rw [done_neg (by omega)]; exact ih
    · rw [done_pos e hn]
      by_cases hin : i = n
      · subst hin
        simp only [readyJ, decide_eq_true_eq] at hr
        omega
      · rw [if_neg hin]; omega
/-- Work of a set of jobs. -/
def work (P : Nat → Bool) (f : Nat → Int) (n : Nat) : Int := sumI (fun i => if P i then f i else 0) n
theorem work_neg {P : Nat → Bool} {k : Nat} (h : pick k (simU L pick k).done < 0) : work P (doneAt L pick (k + 1)) L.length = work P (doneAt L pick k) L.length :=
  sumI_congr fun i _ => by rw [done_neg h]
theorem work_pos {P : Nat → Bool} {k n : Nat} (h : pick k (simU L pick k).done = n) (hn : n < L.length) : work P (doneAt L pick (k + 1)) L.length = work P (doneAt L pick k) L.length + if P n then 1 else 0 := by
  unfold work
  cases hP : P n with
  | true =>
    rw [sumI_one (f := fun i => if P i then doneAt L pick k i else 0) (j := n), if_pos hn]
    · simp
    · intro i _
      rw [done_pos h hn]
      by_cases e : i = n
      · subst e; rw [hP]; simp
      · rw [if_neg e]; cases P i <;> simp
  | false =>
    simp only [Bool.false_eq_true, if_false, Int.add_zero]
    refine sumI_congr fun i _ => ?_
    rw [done_pos h hn]
    by_cases e : i = n
    · subst e; rw [hP]; simp
    · rw [if_neg e]; simp
/-- Work is at most what is free. -/
theorem work_le (hf : Fair L pick) {A : Nat → Bool} (hA : Only A pick) (P : Nat → Bool) (a : Nat) : ∀ m : Nat, work P (doneAt L pick (a + m)) L.length ≤ work P (doneAt L pick a) L.length + free A a m
  | 0 => by simp [free]
  | m + 1 => by
    have ih := work_le hf hA P a m
    rw [← Nat.add_assoc]
    simp only [free]
    rcases hf (a + m) (simU L pick (a + m)).done with e | ⟨n, e, hn, _⟩
    · rw [work_neg (by omega)]
      split <;> omega
    · rw [work_pos e hn]
      cases h : A (a + m) with
      | true => simp; split <;> omega
      | false => have := hA _ (simU L pick (a + m)).done h; omega
/-- Work is all that is free, where only those jobs run. -/
theorem work_eq {A : Nat → Bool} (hA : Only A pick) (P : Nat → Bool) (a : Nat) : ∀ m : Nat, (∀ t, a ≤ t → t < a + m → A t = true → ∃ n : Nat, pick t (simU L pick t).done = n ∧ n < L.length ∧ P n = true) →
    work P (doneAt L pick (a + m)) L.length = work P (doneAt L pick a) L.length + free A a m
  | 0, _ => by simp [free]
  | m + 1, h => by
    have ih := work_eq hA P a m fun t h1 h2 => h t h1 (by omega)
    rw [← Nat.add_assoc]
    simp only [free]
    cases hh : A (a + m) with
    | true =>
      obtain ⟨n, e, hn, hP⟩ := h (a + m) (by omega) (by omega) hh
      rw [work_pos e hn, hP, ih]; simp; omega
    | false =>
      rw [work_neg (by rw [hA _ _ hh]; omega), ih]; simp
end

/-- Earliest deadline first in the free ticks. -/
def EdfOn (A : Nat → Bool) (L : List Job) (pick : Nat → List Int → Int) : Prop := ∀ now done, pick now done = if A now = true then edfPick L now done else -1
theorem EdfOn.fair {A : Nat → Bool} {L : List Job} {pick : Nat → List Int → Int} (h : EdfOn A L pick) : Fair L pick := fun now done => by
  rw [h]; split
  · exact edf_fair L now done
  · exact .inl rfl
theorem EdfOn.only {A : Nat → Bool} {L : List Job} {pick : Nat → List Int → Int} (h : EdfOn A L pick) : Only A pick := fun now done hA => by rw [h, if_neg (by simp [hA])]

/-- The jobs released from a on with deadlines up to d. -/
def within (L : List Job) (a d : Nat) (i : Nat) : Bool := decide ((a : Int) ≤ (L.getD i default).R ∧ (L.getD i default).D ≤ d)

theorem least {Q : Nat → Prop} : ∀ m : Nat, Q m → ∃ a, a ≤ m ∧ Q a ∧ (a = 0 ∨ ¬ Q (a - 1))
  | 0, h => ⟨0, Nat.le_refl _, h, .inl rfl⟩
  | m + 1, h => by
    by_cases h1 : Q m
    · obtain ⟨a, h2, h3⟩ := least m h1
      exact ⟨a, by omega, h3⟩
    · exact ⟨m + 1, Nat.le_refl _, h, .inr h1⟩

/-- A miss shows an interval that is too full. -/
theorem edf_miss {A : Nat → Bool} {L : List Job} {pick : Nat → List Int → Int} (h : EdfOn A L pick) (hE : ∀ j ∈ L, 1 ≤ j.E) (hR : ∀ j ∈ L, 0 ≤ j.R) {d j : Nat} (hj : j < L.length) (hD : (L.getD j default).D ≤ d) (hm : doneAt L pick d j < (L.getD j default).E) :
    ∃ a, a ≤ d ∧ free A a (d - a) < work (within L a d) (fun i => (L.getD i default).E) L.length := by
  have hf := h.fair
  obtain ⟨a, ha, hQ, hmin⟩ := least (Q := fun a => ∀ t, a ≤ t → t < d → A t = true → ∃ n : Nat, pick t (simU L pick t).done = n ∧ n < L.length ∧ (L.getD n default).D ≤ d) d (fun t h1 h2 => by omega)
  refine ⟨a, ha, ?_⟩
  have past : ∀ i, i < L.length → (L.getD i default).D ≤ d → (L.getD i default).R < a → doneAt L pick a i = (L.getD i default).E := by
    intro i hi hDi hRi
    rcases hmin with rfl | hmin
    · have : L.getD i default ∈ L := by
        rw [show L.getD i default = L[i] from by simp [List.getD_eq_getElem?_getD, hi]]
        exact List.getElem_mem hi
      have := hR _ this
      omega
    · have ha0 : 0 < a := by
        rcases Nat.eq_zero_or_pos a with rfl | h0
        · exact absurd hQ hmin
        · exact h0
      have hx : A (a - 1) = true ∧ ¬ ∃ n : Nat, pick (a - 1) (simU L pick (a - 1)).done = n ∧ n < L.length ∧ (L.getD n default).D ≤ d := by
        apply Classical.byContradiction
        intro hn
        apply hmin
        intro t h1 h2 h3
        by_cases e : t = a - 1
        · subst e
          apply Classical.byContradiction
          intro h4; exact hn ⟨h3, h4⟩
        · exact hQ t (by omega) h2 h3
      have hpk := h (a - 1) (simU L pick (a - 1)).done
      rw [if_pos hx.1] at hpk
      have hle : doneAt L pick (a - 1) i ≤ _ := (runInv hf hE (a - 1) i hi).le
      have hfull : doneAt L pick (a - 1) i = (L.getD i default).E := by
        apply Classical.byContradiction
        intro hne
        have hrd : readyJ L (simU L pick (a - 1)).done (a - 1 : Nat) i = true := by
          unfold readyJ
          refine decide_eq_true ⟨by omega, ?_⟩
          change doneAt L pick (a - 1) i < _
          omega
        unfold edfPick at hpk
        rcases bestF_spec (readyJ L (simU L pick (a - 1)).done (a - 1 : Nat)) (fun i => (L.getD i default).D) L.length with ⟨e, h1⟩ | ⟨n, e, hn, hok, h1, _⟩
        · rw [h1 i hi] at hrd; cases hrd
        · have := h1 i hi hrd
          exact hx.2 ⟨n, hpk.trans e, hn, by omega⟩
      exact done_full hf hE hi (by omega) hfull
  have hP : ∀ t, a ≤ t → t < a + (d - a) → A t = true → ∃ n : Nat, pick t (simU L pick t).done = n ∧ n < L.length ∧ within L a d n = true := by
    intro t h1 h2 h3
    obtain ⟨n, e, hn, hDn⟩ := hQ t h1 (by omega) h3
    refine ⟨n, e, hn, decide_eq_true ⟨?_, hDn⟩⟩
    apply Classical.byContradiction
    intro hlt
    have hfull := done_full hf hE hn h1 (past n hn hDn (by omega))
    rcases hf t (simU L pick t).done with e2 | ⟨m, e2, _, hr⟩
    · omega
    · obtain rfl : m = n := by omega
      simp only [readyJ, decide_eq_true_eq] at hr
      unfold doneAt at hfull
      omega
  have hw := work_eq (L := L) (pick := pick) h.only (within L a d) a (d - a) hP
  have h0 : work (within L a d) (doneAt L pick a) L.length = 0 := by
    refine sumI_zero fun i hi => ?_
    split
    · rename_i hwi
      exact done_rel hf hi a (of_decide_eq_true hwi).1
    · rfl
  rw [show a + (d - a) = d by omega] at hw
  have hjP : within L a d j = true := by
    refine decide_eq_true ⟨?_, hD⟩
    apply Classical.byContradiction
    intro hlt
    have := done_full hf hE hj ha (past j hj hD (by omega))
    omega
  have hlt : work (within L a d) (doneAt L pick d) L.length < work (within L a d) (fun i => (L.getD i default).E) L.length := by
    refine sumI_lt (j := j) (fun i hi => ?_) hj ?_
    · split
      · exact (runInv hf hE d i hi).le
      · exact Int.le_refl _
    · simp only; rw [hjP]; simpa using hm
  omega

/-- A schedule in fewer ticks leaves one of those jobs unfinished too. -/
theorem too_full {A : Nat → Bool} {L : List Job} {pick : Nat → List Int → Int} (hf : Fair L pick) (hA : Only A pick) {a d : Nat} (ha : a ≤ d) (_hE : ∀ j ∈ L, 1 ≤ j.E)
    (h : free A a (d - a) < work (within L a d) (fun i => (L.getD i default).E) L.length) : ∃ i, i < L.length ∧ within L a d i = true ∧ doneAt L pick d i < (L.getD i default).E := by
  apply Classical.byContradiction
  intro hn
  have hw := work_le (L := L) (pick := pick) hf hA (within L a d) a (d - a)
  rw [show a + (d - a) = d by omega] at hw
  have h0 : work (within L a d) (doneAt L pick a) L.length = 0 := by
    refine sumI_zero fun i hi => ?_
    split
    · rename_i hwi
      exact done_rel hf hi a (of_decide_eq_true hwi).1
    · rfl
  have h1 : work (within L a d) (fun i => (L.getD i default).E) L.length ≤ work (within L a d) (doneAt L pick d) L.length := by
    refine sumI_le fun i hi => ?_
    split
    · rename_i hwi
      apply Classical.byContradiction
      intro hlt
      exact hn ⟨i, hi, hwi, by simp only at hlt; omega⟩
    · exact Int.le_refl _
  omega

/-- A job has finished by a time if and only if its finish time says so. -/
theorem fin_iff {L : List Job} {pick : Nat → List Int → Int} (hf : Fair L pick) (hE : ∀ j ∈ L, 1 ≤ j.E) {i m k : Nat} (hi : i < L.length) (hm : m ≤ k) :
    (0 ≤ gI (simU L pick k).fin i ∧ gI (simU L pick k).fin i ≤ m) ↔ doneAt L pick m i = (L.getD i default).E := by
  obtain ⟨_, _, _, h4⟩ := runInv hf hE k i hi
  have hle : doneAt L pick m i ≤ _ := (runInv hf hE m i hi).le
  constructor
  · rintro ⟨h1, h2⟩
    rcases h4 with ⟨h, _⟩ | ⟨f, q1, q2, q3, q4, q5, q6⟩
    · omega
    · have key : ∀ b, m + b ≤ k → doneAt L pick (m + b) i = doneAt L pick m i := by
        intro b
        induction b with
        | zero => intro _; rfl
        | succ b ih =>
          intro hb
          rw [← Nat.add_assoc]
          have hne := q6 (m + b) (by omega) (by omega)
          rw [simU_at (show m + b < k by omega)] at hne
          rcases hf (m + b) (simU L pick (m + b)).done with e | ⟨n, e, hn, _⟩
          · rw [done_neg (by omega)]; exact ih (by omega)
          · rw [done_pos e hn, if_neg (fun h => hne (by rw [e, h]))]
            rw [ih (by omega)]; omega
      have := key (k - m) (by omega)
      rw [show m + (k - m) = k by omega] at this
      rw [← this]; exact q4
  · intro hfull
    have hk := done_full hf hE hi hm hfull
    rcases h4 with ⟨_, h⟩ | ⟨f, q1, q2, q3, q4, q5, q6⟩
    · unfold doneAt at hk; omega
    · rw [q1]
      refine ⟨by omega, ?_⟩
      apply Classical.byContradiction
      intro hlt
      rw [simU_at (show f - 1 < k by omega)] at q5
      rcases hf (f - 1) (simU L pick (f - 1)).done with e | ⟨n, e, hn, hr⟩
      · omega
      · obtain rfl : n = i := by omega
        simp only [readyJ, decide_eq_true_eq] at hr
        have := done_full hf hE hi (show m ≤ f - 1 by omega) hfull
        unfold doneAt at this
        omega

/-- The jobs that miss their deadlines. -/
def lateAt (L : List Job) (fin : List Int) (i : Nat) : Bool := decide ((L.getD i default).D ≤ 120 ∧ (gI fin i < 0 ∨ (L.getD i default).D < gI fin i))
def missedL (L : List Job) (fin : List Int) : List Int := ((List.range L.length).filter (lateAt L fin)).map fun (i : Nat) => (i : Int)

theorem missed_nil {L : List Job} {fin : List Int} : missedL L fin = [] ↔ ∀ i, i < L.length → lateAt L fin i = false := by
  unfold missedL
  rw [List.map_eq_nil_iff, List.filter_eq_nil_iff]
  simp

theorem late_iff {L : List Job} {pick : Nat → List Int → Int} (hf : Fair L pick) (hE : ∀ j ∈ L, 1 ≤ j.E) {i : Nat} (hi : i < L.length) (hD : 0 ≤ (L.getD i default).D) :
    lateAt L (simU L pick 120).fin i = true ↔ (L.getD i default).D ≤ 120 ∧ doneAt L pick (L.getD i default).D.toNat i < (L.getD i default).E := by
  unfold lateAt
  rw [decide_eq_true_iff]
  refine and_congr_right fun h => ?_
  have h1 := fin_iff hf hE hi (show (L.getD i default).D.toNat ≤ 120 by omega)
  have h2 : doneAt L pick (L.getD i default).D.toNat i ≤ _ := (runInv hf hE (L.getD i default).D.toNat i hi).le
  rw [Int.toNat_of_nonneg hD] at h1
  constructor
  · intro h3
    apply Classical.byContradiction
    intro h4
    have := h1.2 (by omega)
    omega
  · intro h3
    apply Classical.byContradiction
    intro h4
    have := h1.1 (by omega)
    omega

/-- Earliest deadline first is optimal, and more free ticks do no harm. -/
theorem edf_best {A B : Nat → Bool} {L : List Job} {pick pick' : Nat → List Int → Int} (hf : Fair L pick) (hA : Only A pick) (h : EdfOn B L pick') (hAB : ∀ t, t < 120 → A t = true → B t = true)
    (hE : ∀ j ∈ L, 1 ≤ j.E) (hR : ∀ j ∈ L, 0 ≤ j.R) (hD : ∀ j ∈ L, 0 ≤ j.D) (hm : missedL L (simU L pick 120).fin = []) : missedL L (simU L pick' 120).fin = [] := by
  have gm : ∀ i, i < L.length → L.getD i default ∈ L := fun i hi => by
    rw [show L.getD i default = L[i] from by simp [List.getD_eq_getElem?_getD, hi]]
    exact List.getElem_mem hi
  rw [missed_nil] at hm ⊢
  intro i hi
  cases hl : lateAt L (simU L pick' 120).fin i with
  | false => rfl
  | true =>
    exfalso
    have hDi := hD _ (gm i hi)
    obtain ⟨h1, h2⟩ := (late_iff h.fair hE hi hDi).1 hl
    obtain ⟨a, ha, hw⟩ := edf_miss h hE hR hi (d := (L.getD i default).D.toNat) (by omega) h2
    obtain ⟨k, hk, hwk, hlt⟩ := too_full hf hA ha hE (Int.lt_of_le_of_lt (free_le fun t ht => hAB t (by omega)) hw)
    have hDk := hD _ (gm k hk)
    have hwk2 := (of_decide_eq_true hwk).2
    have hmono := done_mono' hf k (show (L.getD k default).D.toNat ≤ (L.getD i default).D.toNat by omega)
    have := hm k hk
    rw [(late_iff hf hE hk hDk).2 ⟨by omega, by omega⟩] at this
    cases this
end Go.Ds
