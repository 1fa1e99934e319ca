/- The plain law: shared resources: busy times, started jobs, mutual exclusion. Definitions in plain Lean; no program in sight. -/
import Derived.Test.YtnlciginmeebhaaM21
namespace Go.Ds

/-- A picker that idles only if nothing is ready. -/
def Busy (L : List Job) (pick : Nat → List Int → Int) : Prop := ∀ now done, pick now done = -1 → ∀ i, i < L.length → readyJ L done now i = false

theorem best_busy {L : List Job} {key : Nat → Int} {now : Nat} {done : List Int} (h : bestF L.length (readyJ L done now) key = -1) : ∀ i, i < L.length → readyJ L done now i = false := by
  rcases bestF_spec (readyJ L done now) key L.length with ⟨_, h1⟩ | ⟨k, e, _⟩
  · exact h1
  · omega
theorem edf_busy (L : List Job) : Busy L (edfPick L) := fun now done h => best_busy h
theorem srp_busy (S : List Task) (X : List Sec) {L : List Job} (hD : ∀ j ∈ L, (gT S j.T).D < 13) (hX : ∀ i, i < L.length → 0 ≤ (jX X L i).St) : Busy L (srpPick S X L) := fun now done h => by
  unfold srpPick at h
  by_cases h1 : edfPick L now done < 0 ∨ 0 < gI done (edfPick L now done)
  · rw [if_pos h1] at h; exact best_busy h
  rw [if_neg h1] at h
  rcases edf_fair L now done with e | ⟨n, e, hn, hr⟩
  · omega
  by_cases h2 : tD S L (edfPick L now done) < sysN S X L (heldI X L done now) L.length
  · rw [if_pos h2] at h; omega
  rw [if_neg h2] at h
  have h3 : tD S L (edfPick L now done) < 13 := by
    unfold tD
    rw [e, Int.toNat_natCast, show L.getD n default = L[n] by simp [List.getD_eq_getElem?_getD, hn]]
    exact hD _ (List.getElem_mem hn)
  obtain ⟨i, hi, hh⟩ := sysN_held (S := S) (X := X) (L := L) (h := heldI X L done now) (k := L.length) (by omega)
  unfold heldI at hh
  rw [Bool.and_eq_true, decide_eq_true_eq] at hh
  rcases bestF_spec (fun i => readyJ L done now i && startedB done i) (keyD L) L.length with ⟨_, h4⟩ | ⟨k, e, _⟩
  · have h5 := h4 i hi
    have h6 := hX i hi
    have h7 := hh.2
    unfold inSec at h7
    simp only [hh.1, Bool.true_and, startedB, decide_eq_false_iff_not] at h5
    omega
  · omega

/-- The work released. -/
def relW (L : List Job) (k : Nat) (i : Nat) : Int := if (L.getD i default).R ≤ k then (L.getD i default).E else 0
def doneW (L : List Job) (done : List Int) : Int := sumI (fun i => gI done i) L.length

section
variable {L : List Job} {pick : Nat → List Int → Int}
theorem idle_iff (hf : Fair L pick) (hb : Busy L pick) (hE : ∀ j ∈ L, 1 ≤ j.E) (k : Nat) : pick k (simU L pick k).done = -1 ↔ doneW L (simU L pick k).done = sumI (relW L k) L.length := by
  have hr := reach hf hE k
  have hle : ∀ i, i < L.length → gI (simU L pick k).done i ≤ relW L k i := fun i hi => by
    have := hr i hi
    unfold relW
    split
    · exact this.1.2
    · rename_i h1
      rcases Int.lt_or_le 0 (gI (simU L pick k).done i) with h2 | h2
      · exact absurd (this.2 h2) h1
      · exact h2
  constructor
  · intro h
    refine sumI_congr fun i hi => ?_
    have h1 := hb _ _ h i hi
    have h2 := hr i hi
    unfold readyJ at h1
    simp only [decide_eq_false_iff_not] at h1
    unfold relW
    split
    · omega
    · have := hle i hi
      unfold relW at this
      rw [if_neg (by assumption)] at this
      omega
  · intro h
    rcases hf k (simU L pick k).done with e | ⟨n, e, hn, hrd⟩
    · exact e
    · have h1 : gI (simU L pick k).done n < relW L k n := by
        unfold readyJ at hrd
        simp only [decide_eq_true_eq] at hrd
        unfold relW
        rw [if_pos hrd.1]; exact hrd.2
      have := sumI_lt hle hn h1
      unfold doneW at h
      omega
theorem doneW_step (hf : Fair L pick) (k : Nat) : doneW L (simU L pick (k + 1)).done = doneW L (simU L pick k).done + if pick k (simU L pick k).done = -1 then 0 else 1 := by
  have hl := (simU_lens (L := L) (pick := pick) k).1
  rcases hf k (simU L pick k).done with e | ⟨n, e, hn, _⟩
  · have hd : (simU L pick (k + 1)).done = (simU L pick k).done := by rw [simU_succ]; simp [tick, e]
    rw [hd, if_pos e]; omega
  · have hd : (simU L pick (k + 1)).done = (simU L pick k).done.set n (gI (simU L pick k).done n + 1) := by
      rw [simU_succ]; simp [tick, e, show ¬ (n : Int) < 0 by omega]
    rw [hd, if_neg (by omega)]
    unfold doneW
    rw [sumI_one (f := fun i => gI (simU L pick k).done i) (j := n) (fun i hi => by
      rw [gI_set (by omega)]
      by_cases h : n = i
      · subst h; rw [if_pos rfl, if_pos rfl]
      · rw [if_neg h, if_neg (fun h' => h h'.symm)]; omega), if_pos hn]
end

theorem busy_same {L : List Job} {p q : Nat → List Int → Int} (hp : Fair L p) (hq : Fair L q) (bp : Busy L p) (bq : Busy L q) (hE : ∀ j ∈ L, 1 ≤ j.E) : ∀ k : Nat, doneW L (simU L p k).done = doneW L (simU L q k).done ∧ (p k (simU L p k).done = -1 ↔ q k (simU L q k).done = -1) := by
  have key : ∀ k, doneW L (simU L p k).done = doneW L (simU L q k).done → (p k (simU L p k).done = -1 ↔ q k (simU L q k).done = -1) := fun k h => by
    rw [idle_iff hp bp hE, idle_iff hq bq hE, h]
  intro k
  induction k with
  | zero => exact ⟨rfl, key 0 rfl⟩
  | succ k ih =>
    have h : doneW L (simU L p (k + 1)).done = doneW L (simU L q (k + 1)).done := by
      rw [doneW_step hp, doneW_step hq, ih.1]
      by_cases h1 : p k (simU L p k).done = -1
      · rw [if_pos h1, if_pos (ih.2.1 h1)]
      · rw [if_neg h1, if_neg fun h2 => h1 (ih.2.2 h2)]
    exact ⟨h, key _ h⟩

/-- A started job is not blocked. -/
theorem srp_started {S : List Task} {X : List Sec} {L : List Job} {now : Nat} {done : List Int} {i : Nat} (hi : i < L.length) (hr : readyJ L done now i = true) (hs : 0 < gI done i) : ∃ n : Nat, n < L.length ∧ srpPick S X L now done = n ∧ keyD L n ≤ keyD L i := by
  have h1 : ∃ n : Nat, n < L.length ∧ edfPick L now done = n ∧ keyD L n ≤ keyD L i := by
    rcases bestF_spec (readyJ L done now) (keyD L) L.length with ⟨_, h⟩ | ⟨k, e, hk, _, h, _⟩
    · rw [h i hi] at hr; cases hr
    · exact ⟨k, hk, e, h i hi hr⟩
  have h2 : ∃ n : Nat, n < L.length ∧ bestF L.length (fun i => readyJ L done now i && startedB done i) (keyD L) = n ∧ keyD L n ≤ keyD L i := by
    have ho : (readyJ L done now i && startedB done i) = true := by rw [hr]; simpa [startedB] using hs
    rcases bestF_spec (fun i => readyJ L done now i && startedB done i) (keyD L) L.length with ⟨_, h⟩ | ⟨k, e, hk, _, h, _⟩
    · have := h i hi
      rw [ho] at this; cases this
    · exact ⟨k, hk, e, h i hi ho⟩
  unfold srpPick
  split
  · exact h1
  · split
    · exact h1
    · exact h2

/-- Who comes first. -/
def better (L : List Job) (b a : Nat) : Prop := keyD L b < keyD L a ∨ (keyD L b = keyD L a ∧ b < a)
def running (L : List Job) (done : List Int) (i : Nat) : Prop := 0 < gI done i ∧ gI done i < (L.getD i default).E
def MxInv (S : List Task) (X : List Sec) (L : List Job) (done : List Int) : Prop := ∀ a b, a < L.length → b < L.length → better L b a → running L done a → running L done b → inSec (jX X L a) (gI done a) → tD S L b < ceilR S X (jX X L a).Rs

/-- Who runs comes first among those that have started. -/
theorem pick_first {S : List Task} {X : List Sec} {L : List Job} {now : Nat} {done : List Int} {n b : Nat} (h : srpPick S X L now done = n) (hb : b < L.length) (hr : readyJ L done now b = true) (hs : 0 < gI done b) : ¬ better L b n := by
  have key : ∀ ok : Nat → Bool, ok b = true → bestF L.length ok (keyD L) = n → ¬ better L b n := fun ok ho he hbt => by
    rcases bestF_spec ok (keyD L) L.length with ⟨e, _⟩ | ⟨k, e, hk, _, h1, h2⟩
    · omega
    · obtain rfl : n = k := by omega
      rcases hbt with h3 | ⟨h3, h4⟩
      · have := h1 b hb ho; omega
      · have := h2 b h4 ho; omega
  unfold srpPick at h
  split at h
  · exact key _ hr h
  · split at h
    · exact key _ hr h
    · exact key _ (by rw [hr]; simpa [startedB] using hs) h

theorem mx_inv {S : List Task} {X : List Sec} {L : List Job} (hE : ∀ j ∈ L, 1 ≤ j.E) : ∀ k : Nat, MxInv S X L (simU L (srpPick S X L) k).done := by
  have hf := srp_fair S X L
  intro k
  induction k with
  | zero =>
    intro a b ha _ _ hra _ _
    have h0 : gI (simU L (srpPick S X L) 0).done a = 0 := gI_rep _ _ _ ha
    unfold running at hra
    omega
  | succ k ih =>
    have hl := (simU_lens (L := L) (pick := srpPick S X L) k).1
    have hre := reach hf hE k
    have hrdy : ∀ i, i < L.length → running L (simU L (srpPick S X L) k).done i → readyJ L (simU L (srpPick S X L) k).done k i = true := fun i hi h => by
      unfold readyJ
      rw [decide_eq_true_eq]
      exact ⟨(hre i hi).2 h.1, h.2⟩
    rcases hf k (simU L (srpPick S X L) k).done with e | ⟨n, e, hn, hr⟩
    · have hd : (simU L (srpPick S X L) (k + 1)).done = (simU L (srpPick S X L) k).done := by rw [simU_succ]; simp [tick, e]
      rw [hd]; exact ih
    · have hd : (simU L (srpPick S X L) (k + 1)).done = (simU L (srpPick S X L) k).done.set n (gI (simU L (srpPick S X L) k).done n + 1) := by
        rw [simU_succ]; simp [tick, e, show ¬ (n : Int) < 0 by omega]
      rw [hd]
      generalize (simU L (srpPick S X L) k).done = done at *
      have hg : ∀ i : Nat, gI (done.set n (gI done n + 1)) i = if n = i then gI done n + 1 else gI done i := fun i => gI_set (by omega) _ i
      intro a b ha hb hbt hra hrb hin
      unfold running at hra hrb
      rw [hg a] at hra hin
      rw [hg b] at hrb
      by_cases hna : n = a
      · subst hna
        have hnb : ¬ n = b := fun h => by
          subst h
          rcases hbt with h | h <;> omega
        rw [if_neg hnb] at hrb
        exact absurd hbt (pick_first e hb (hrdy b hb hrb) hrb.1)
      · rw [if_neg hna] at hra hin
        by_cases hnb : n = b
        · subst hnb
          have hrd := hr
          unfold readyJ at hrd
          rw [decide_eq_true_eq] at hrd
          by_cases h0 : 0 < gI done n
          · exact ih a n ha hb hbt hra ⟨h0, hrd.2⟩ hin
          · have hd0 : gI done n = 0 := by have := (hre n hn).1.1; omega
            unfold srpPick at e
            by_cases h1 : edfPick L k done < 0 ∨ 0 < gI done (edfPick L k done)
            · rw [if_pos h1] at e
              rw [e] at h1
              omega
            · rw [if_neg h1] at e
              by_cases h2 : tD S L (edfPick L k done) < sysN S X L (heldI X L done k) L.length
              · rw [if_pos h2] at e
                rw [e] at h2
                have h3 := sysN_le (S := S) (X := X) (L := L) (h := heldI X L done k) ha (by
                  unfold heldI
                  rw [hrdy a ha hra, Bool.true_and, decide_eq_true_eq]; exact hin)
                omega
              · rw [if_neg h2] at e
                rcases bestF_spec (fun i => readyJ L done k i && startedB done i) (keyD L) L.length with ⟨e', _⟩ | ⟨q, e', hq, hok, _⟩
                · omega
                · obtain rfl : n = q := by omega
                  simp only [Bool.and_eq_true, startedB, decide_eq_true_eq] at hok
                  omega
        · rw [if_neg hnb] at hrb
          exact ih a b ha hb hbt hra hrb hin

/-- Two jobs do not hold the same resource. -/
theorem mutex {S : List Task} {X : List Sec} {L : List Job} (hE : ∀ j ∈ L, 1 ≤ j.E) (hT : ∀ i, i < L.length → 0 ≤ (L.getD i default).T ∧ (L.getD i default).T < S.length) (hX : ∀ i, i < L.length → 0 ≤ (jX X L i).St) (k : Nat) {a b : Nat} (ha : a < L.length) (hb : b < L.length) (hne : a ≠ b)
    (h1 : heldS X L (simU L (srpPick S X L) k).done a = true) (h2 : heldS X L (simU L (srpPick S X L) k).done b = true) : (jX X L a).Rs ≠ (jX X L b).Rs := by
  have key : ∀ a b, a < L.length → b < L.length → better L b a → heldS X L (simU L (srpPick S X L) k).done a = true → heldS X L (simU L (srpPick S X L) k).done b = true → (jX X L a).Rs ≠ (jX X L b).Rs := by
    intro a b ha hb hbt h1 h2 he
    unfold heldS at h1 h2
    rw [decide_eq_true_eq] at h1 h2
    have xa := hX a ha
    have xb := hX b hb
    have h3 := mx_inv (S := S) (X := X) hE k a b ha hb hbt ⟨by omega, h1.2.2.2⟩ ⟨by omega, h2.2.2.2⟩ ⟨h1.2.1, h1.2.2.1⟩
    have tb := hT b hb
    have hq : (((L.getD b default).T.toNat : Nat) : Int) = (L.getD b default).T := Int.toNat_of_nonneg tb.1
    have h4 := ceilN_le (S := S) (X := X) (r := (jX X L a).Rs) (k := S.length) (i := (L.getD b default).T.toNat) (by omega) (by rw [hq]; exact h2.1) (by rw [hq]; exact he.symm)
    rw [hq] at h4
    unfold tD at h3
    rw [Int.toNat_natCast] at h3
    unfold ceilR at h3
    omega
  rcases Int.lt_trichotomy (keyD L a) (keyD L b) with h | h | h
  · exact fun he => key b a hb ha (.inl h) h2 h1 he.symm
  · rcases Nat.lt_or_gt_of_ne hne with h' | h'
    · exact fun he => key b a hb ha (.inr ⟨h, h'⟩) h2 h1 he.symm
    · exact key a b ha hb (.inr ⟨h.symm, h'⟩) h1 h2
  · exact key a b ha hb (.inl h) h1 h2
end Go.Ds
