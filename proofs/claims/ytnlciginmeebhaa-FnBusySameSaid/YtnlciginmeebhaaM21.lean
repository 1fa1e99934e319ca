/- The plain law: shared resources. Definitions in plain Lean; no program in sight. -/
import Derived.Test.YtnlciginmeebhaaMM
namespace Go.Ds

/-- A critical section. -/
structure Sec where
  St : Int
  Ln : Int
  Rs : Int
  deriving DecidableEq, Inhabited
def gX (X : List Sec) (k : Int) : Sec := X.getD k.toNat default
def secOk (t : Task) (s : Sec) : Prop := (s.Ln = 0 → s.St = 0 ∧ s.Rs = 0) ∧ (0 ≤ s.Ln ∧ s.Ln ≤ t.C) ∧ (0 ≤ s.St ∧ s.St ≤ t.C - s.Ln) ∧ 0 ≤ s.Rs ∧ s.Rs ≤ 2
instance (t : Task) (s : Sec) : Decidable (secOk t s) := by unfold secOk; infer_instance
def secsOk (S : List Task) (X : List Sec) : Prop := setOk S ∧ X.length = S.length ∧ ∀ k : Nat, k < X.length → secOk (gT S k) (gX X k)
noncomputable instance (S : List Task) (X : List Sec) : Decidable (secsOk S X) := Classical.propDecidable _

/-- The ceiling of a resource. -/
def ceilN (S : List Task) (X : List Sec) (r : Int) : Nat → Int
  | 0 => 13
  | k + 1 => if 0 < (gX X k).Ln ∧ (gX X k).Rs = r then (if (gT S k).D < ceilN S X r k then (gT S k).D else ceilN S X r k) else ceilN S X r k
def ceilR (S : List Task) (X : List Sec) (r : Int) : Int := ceilN S X r S.length

theorem ceilN_le {S : List Task} {X : List Sec} {r : Int} : ∀ {k i : Nat}, i < k → 0 < (gX X i).Ln → (gX X i).Rs = r → ceilN S X r k ≤ (gT S i).D
  | 0, i, h, _, _ => absurd h (by omega)
  | k + 1, i, h, h1, h2 => by
    simp only [ceilN]
    rcases Nat.lt_or_eq_of_le (Nat.le_of_lt_succ h) with h3 | rfl
    · have := ceilN_le (S := S) h3 h1 h2
      split
      · split <;> omega
      · exact this
    · rw [if_pos ⟨h1, h2⟩]
      split <;> omega
theorem ceilN_13 (S : List Task) (X : List Sec) (r : Int) : ∀ k, ceilN S X r k ≤ 13
  | 0 => Int.le_refl _
  | k + 1 => by
    have := ceilN_13 S X r k
    simp only [ceilN]
    split
    · split <;> omega
    · exact this

/-- The section of a job. -/
def jX (X : List Sec) (L : List Job) (i : Nat) : Sec := gX X (L.getD i default).T
def inSec (s : Sec) (d : Int) : Prop := s.St < d ∧ d < s.St + s.Ln
instance (s : Sec) (d : Int) : Decidable (inSec s d) := by unfold inSec; infer_instance

/-- The system's ceiling. -/
def sysN (S : List Task) (X : List Sec) (L : List Job) (h : Nat → Bool) : Nat → Int
  | 0 => 13
  | k + 1 => if h k then (if ceilR S X (jX X L k).Rs < sysN S X L h k then ceilR S X (jX X L k).Rs else sysN S X L h k) else sysN S X L h k
theorem sysN_le {S : List Task} {X : List Sec} {L : List Job} {h : Nat → Bool} : ∀ {k i : Nat}, i < k → h i = true → sysN S X L h k ≤ ceilR S X (jX X L i).Rs
  | 0, i, h, _ => absurd h (by omega)
  | k + 1, i, h1, h2 => by
    simp only [sysN]
    rcases Nat.lt_or_eq_of_le (Nat.le_of_lt_succ h1) with h3 | rfl
    · have := sysN_le (S := S) (X := X) (L := L) h3 h2
      split
      · split <;> omega
      · exact this
    · rw [if_pos h2]
      split <;> omega
theorem sysN_held {S : List Task} {X : List Sec} {L : List Job} {h : Nat → Bool} : ∀ {k : Nat}, sysN S X L h k < 13 → ∃ i, i < k ∧ h i = true
  | 0, h => absurd h (by simp [sysN])
  | k + 1, h => by
    simp only [sysN] at h
    by_cases h1 : ‹Nat → Bool› k = true
    · exact ⟨k, by omega, h1⟩
    · rw [if_neg h1] at h
      obtain ⟨i, h2, h3⟩ := sysN_held h
      exact ⟨i, by omega, h3⟩
theorem sysN_congr {S : List Task} {X : List Sec} {L : List Job} {h h' : Nat → Bool} : ∀ {k : Nat}, (∀ i, i < k → h i = h' i) → sysN S X L h k = sysN S X L h' k
  | 0, _ => rfl
  | k + 1, he => by
    simp only [sysN]
    rw [he k (by omega), sysN_congr fun i hi => he i (by omega)]
theorem sysN_13 (S : List Task) (X : List Sec) (L : List Job) (h : Nat → Bool) : ∀ k, sysN S X L h k ≤ 13
  | 0 => Int.le_refl _
  | k + 1 => by
    have := sysN_13 S X L h k
    simp only [sysN]
    split
    · split <;> omega
    · exact this

def heldI (X : List Sec) (L : List Job) (done : List Int) (now : Nat) (i : Nat) : Bool := readyJ L done now i && decide (inSec (jX X L i) (gI done i))
def keyD (L : List Job) (i : Nat) : Int := (L.getD i default).D
def tD (S : List Task) (L : List Job) (j : Int) : Int := (gT S (L.getD j.toNat default).T).D
def startedB (done : List Int) (i : Nat) : Bool := decide (0 < gI done i)

/-- The stack resource policy. -/
def srpPick (S : List Task) (X : List Sec) (L : List Job) (now : Nat) (done : List Int) : Int :=
  if edfPick L now done < 0 ∨ 0 < gI done (edfPick L now done) then edfPick L now done
  else if tD S L (edfPick L now done) < sysN S X L (heldI X L done now) L.length then edfPick L now done
  else bestF L.length (fun i => readyJ L done now i && startedB done i) (keyD L)

theorem srp_fair (S : List Task) (X : List Sec) (L : List Job) : Fair L (srpPick S X L) := fun now done => by
  unfold srpPick
  split
  · exact edf_fair L now done
  · split
    · exact edf_fair L now done
    · exact best_fair fun i h => by
        rw [Bool.and_eq_true] at h
        exact h.1

/-- As the reference says it. -/
def heldS (X : List Sec) (L : List Job) (done : List Int) (i : Nat) : Bool := decide (0 < (jX X L i).Ln ∧ (jX X L i).St < gI done i ∧ gI done i < (jX X L i).St + (jX X L i).Ln ∧ gI done i < (L.getD i default).E)
def okS (L : List Job) (done : List Int) (now : Nat) (i : Nat) : Bool := decide ((L.getD i default).R ≤ now ∧ gI done i ≠ (L.getD i default).E)
def refPick (S : List Task) (X : List Sec) (L : List Job) (now : Nat) (done : List Int) : Int :=
  if 0 ≤ bestF L.length (okS L done now) (keyD L) ∧ gI done (bestF L.length (okS L done now) (keyD L)) = 0 ∧ sysN S X L (heldS X L done) L.length ≤ tD S L (bestF L.length (okS L done now) (keyD L))
  then bestF L.length (fun i => okS L done now i && startedB done i) (keyD L) else bestF L.length (okS L done now) (keyD L)

theorem bestF_eq {ok ok' : Nat → Bool} {key : Nat → Int} : ∀ {n : Nat}, (∀ i, i < n → ok i = ok' i) → bestF n ok key = bestF n ok' key
  | 0, _ => rfl
  | n + 1, h => by
    rw [bestF_succ, bestF_succ, bestF_eq fun i hi => h i (by omega), h n (by omega)]

/-- Both pick the same, where the work done is some that a run leads to. -/
theorem ref_srp {S : List Task} {X : List Sec} {L : List Job} {now : Nat} {done : List Int} (h : ∀ i, i < L.length → (0 ≤ gI done i ∧ gI done i ≤ (L.getD i default).E) ∧ (0 < gI done i → (L.getD i default).R ≤ now)) (hX : ∀ i, i < L.length → 0 ≤ (jX X L i).St) :
    refPick S X L now done = srpPick S X L now done := by
  have e1 : ∀ i, i < L.length → okS L done now i = readyJ L done now i := fun i hi => by
    have := h i hi
    unfold okS readyJ
    apply decide_eq_decide.2
    omega
  have e2 : bestF L.length (okS L done now) (keyD L) = edfPick L now done := bestF_eq e1
  have e3 : bestF L.length (fun i => okS L done now i && startedB done i) (keyD L) = bestF L.length (fun i => readyJ L done now i && startedB done i) (keyD L) := bestF_eq fun i hi => by rw [e1 i hi]
  have e4 : sysN S X L (heldS X L done) L.length = sysN S X L (heldI X L done now) L.length := sysN_congr fun i hi => by
    have h1 := h i hi
    have h2 := hX i hi
    unfold heldS heldI readyJ
    rw [Bool.eq_iff_iff, Bool.and_eq_true, decide_eq_true_eq, decide_eq_true_eq, decide_eq_true_eq]
    unfold inSec
    omega
  unfold refPick srpPick
  rw [e2, e3, e4]
  have hb := (edf_fair L now done)
  generalize hj : edfPick L now done = j at *
  rcases hb with rfl | ⟨n, rfl, hn, _⟩
  · rw [if_neg (by omega), if_pos (.inl (by omega))]
  · have h1 := h n hn
    by_cases h2 : 0 < gI done n
    · rw [if_neg (fun hh => by omega), if_pos (.inr h2)]
    · rw [if_neg (show ¬ ((n : Int) < 0 ∨ 0 < gI done n) by omega)]
      by_cases h3 : tD S L n < sysN S X L (heldI X L done now) L.length
      · rw [if_pos h3, if_neg (fun hh => by omega)]
      · rw [if_neg h3, if_pos ⟨by omega, by omega, by omega⟩]

theorem reach {L : List Job} {pick : Nat → List Int → Int} (hf : Fair L pick) (hE : ∀ j ∈ L, 1 ≤ j.E) (k : Nat) : ∀ i, i < L.length → (0 ≤ gI (simU L pick k).done i ∧ gI (simU L pick k).done i ≤ (L.getD i default).E) ∧ (0 < gI (simU L pick k).done i → (L.getD i default).R ≤ k) := fun i hi =>
  ⟨⟨(runInv hf hE k i hi).pos, (runInv hf hE k i hi).le⟩, fun h => by
    rcases Int.lt_or_le (k : Int) (L.getD i default).R with h1 | h1
    · have h2 : gI (simU L pick k).done i = 0 := done_rel hf hi k (by omega)
      omega
    · exact h1⟩
end Go.Ds
