import Derived.Test.YtfngcejaphhmmaaMM
namespace Go.Ds
/-- A critical section. -/
structure Sec where
  St : Int
  Ln : Int
  Rs : Int
  deriving DecidableEq, Inhabited
def gX (X : List Sec) (k : Int) : Sec := X.getD k.toNat default
def secOk (t : Task) (s : Sec) : Prop := (s.Ln = 0 → s.St = 0 ∧ s.Rs = 0) ∧ (0 ≤ s.Ln ∧ s.Ln ≤ t.C) ∧ (0 ≤ s.St ∧ s.St ≤ t.C - s.Ln) ∧ 0 ≤ s.Rs ∧ s.Rs ≤ 2
instance (t : Task) (s : Sec) : Decidable (secOk t s) := by unfold secOk; infer_instance
def secsOk (S : List Task) (X : List Sec) : Prop := setOk S ∧ X.length = S.length ∧ ∀ k : Nat, k < X.length → secOk (gT S k) (gX X k)
noncomputable instance (S : List Task) (X : List Sec) : Decidable (secsOk S X) := Classical.propDecidable _
def inSec (s : Sec) (d : Int) : Prop := s.St < d ∧ d < s.St + s.Ln
instance (s : Sec) (d : Int) : Decidable (inSec s d) := by unfold inSec; infer_instance
theorem reach {L : List Job} {pick : Nat → List Int → Int} (hf : Fair L pick) (hE : ∀ j ∈ L, 1 ≤ j.E) (k : Nat) : ∀ i, i < L.length → (0 ≤ gI (simU L pick k).done i ∧ gI (simU L pick k).done i ≤ (L.getD i default).E) ∧ (0 < gI (simU L pick k).done i → (L.getD i default).R ≤ k) := fun i hi =>
  ⟨⟨(runInv hf hE k i hi).pos, (runInv hf hE k i hi).le⟩, fun h => by
    rcases Int.lt_or_le (k : Int) (L.getD i default).R with h1 | h1
    · have h2 : gI (simU L pick k).done i = 0 := done_rel hf hi k (by omega)
      omega
    · exact h1⟩
end Go.Ds
