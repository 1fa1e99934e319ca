/- Contracts: legal release patterns, of the reference. -/
import Derived.Test.YtfngcejaphhmmaaE2
namespace Go.Proofs.Ytfngcejaphhmmaa
open Go.Abs Go.Ds
set_option linter.unusedSimpArgs false
set_option linter.unusedVariables false
set_option maxRecDepth 20000

theorem encT' (t : Task) : encTask.f t = [.i .i64 t.C, .i .i64 t.D, .i .i64 t.P] := rfl

/-- What the reference asks of job k. -/
structure JobAt (S : List Task) (L : List Job) (k : Nat) (h : k < L.length) : Prop where
  row : jrowAt S.length (costOf S) L k h
  d : L[k].D = L[k].R + (gT S L[k].T).D
  gap : gapAt Job.R (perOf S) L k h

theorem JobAt.of {S : List Task} {L : List Job} (hl : jobsLegal S L) (k : Nat) (h : k < L.length) : JobAt S L k h :=
  ⟨hl.2.1.2 k h, hl.2.2.2 _ (List.getElem_mem h), hl.2.2.1 k h⟩

theorem jobsLegal_iff {S : List Task} {L : List Job} (h1 : setOk S) (h2 : L.length ≤ 60) : (∀ k (h : k < L.length), JobAt S L k h) → jobsLegal S L := by
  refine fun hh => ⟨h1, ⟨h2, fun k h => (hh k h).row⟩, fun k h => (hh k h).gap, fun j hj => ?_⟩
  obtain ⟨k, hk, rfl⟩ := List.getElem_of_mem hj
  exact (hh k hk).d

end Go.Proofs.Ytfngcejaphhmmaa
