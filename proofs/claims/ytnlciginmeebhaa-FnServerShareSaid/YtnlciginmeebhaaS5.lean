import Derived.Test.YtnlciginmeebhaaE2
namespace Go.Proofs.Ytnlciginmeebhaa
open Go.Abs Go.Ds
set_option linter.unusedSimpArgs false
set_option linter.unusedVariables false
set_option maxRecDepth 20000
/-- What the reference asks of job k. -/
structure JobAt (S : List Task) (L : List Job) (k : Nat) (h : k < L.length) : Prop where
  row : jrowAt S.length (costOf S) L k h
  d : L[k].D = L[k].R + (gT S L[k].T).D
  gap : gapAt Job.R (perOf S) L k h
theorem JobAt.of {S : List Task} {L : List Job} (hl : jobsLegal S L) (k : Nat) (h : k < L.length) : JobAt S L k h :=
  ⟨hl.2.1.2 k h, hl.2.2.2 _ (List.getElem_mem h), hl.2.2.1 k h⟩
end Go.Proofs.Ytnlciginmeebhaa
