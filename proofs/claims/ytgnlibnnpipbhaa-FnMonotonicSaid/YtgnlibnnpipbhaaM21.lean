import Derived.Test.YtgnlibnnpipbhaaMM
namespace Go.Ds
/-- A critical section. -/
structure Sec where
  St : Int
  Ln : Int
  Rs : Int
  deriving DecidableEq, Inhabited
def gX (X : List Sec) (k : Int) : Sec := X.getD k.toNat default
def secOk (t : Task) (s : Sec) : Prop := (s.Ln = 0 → s.St = 0 ∧ s.Rs = 0) ∧ (0 ≤ s.Ln ∧ s.Ln ≤ t.C) ∧ (0 ≤ s.St ∧ s.St ≤ t.C - s.Ln) ∧ 0 ≤ s.Rs ∧ s.Rs ≤ 2
instance (t : Task) (s : Sec) : Decidable (secOk t s) := by unfold secOk; infer_instance
def secsOk (S : List Task) (X : List Sec) : Prop := setOk S ∧ X.length = S.length ∧ ∀ k : Nat, k < X.length → secOk (gT S k) (gX X k)
noncomputable instance (S : List Task) (X : List Sec) : Decidable (secsOk S X) := Classical.propDecidable _
def inSec (s : Sec) (d : Int) : Prop := s.St < d ∧ d < s.St + s.Ln
instance (s : Sec) (d : Int) : Decidable (inSec s d) := by unfold inSec; infer_instance
def keyD (L : List Job) (i : Nat) : Int := (L.getD i default).D
end Go.Ds
