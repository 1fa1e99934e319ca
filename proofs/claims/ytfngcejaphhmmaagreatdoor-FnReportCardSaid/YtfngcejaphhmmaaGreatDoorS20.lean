import Derived.Test.YtfngcejaphhmmaaGreatDoorE8
import Derived.Test.YtfngcejaphhmmaaGreatDoorMM
namespace Go.Proofs.YtfngcejaphhmmaaGreatDoor
open Go.Abs Go.Ds
set_option linter.unusedSimpArgs false
set_option linter.unusedVariables false
set_option maxRecDepth 20000
set_option maxHeartbeats 1000000
def fpOk (S : List Task) (O : List Int) : Prop := ordOk S O ∧ (-1 : Int) ∉ resps S (List.replicate S.length 0) O O.length
noncomputable instance (S : List Task) (O : List Int) : Decidable (fpOk S O) := Classical.propDecidable _
theorem fpOk.pos {S : List Task} {O : List Int} (h : fpOk S O) : ∀ k, 0 ≤ k → k < (S.length : Int) → 0 ≤ gI (resps S (List.replicate S.length 0) O O.length) k := by
  intro k h0 h1
  obtain ⟨m, hm, e1, e2⟩ := resps_get (J := List.replicate S.length 0) h.1 h0 h1
  have hin : Inst S (List.replicate S.length 0) (O.take m) k := by rw [← e1]; exact inst_take (zeros_ok h.1.1) h.1 hm
  have hl := resps_length S (List.replicate S.length 0) O O.length
  have hk : k.toNat < (resps S (List.replicate S.length 0) O O.length).length := by omega
  have hne : gI (resps S (List.replicate S.length 0) O O.length) k ≠ -1 := by
    rw [gI_eq hk]
    intro e
    exact h.2 (by rw [← e]; exact List.getElem_mem hk)
  rw [e2] at hne ⊢
  rcases respOf_char hin with ⟨e, _⟩ | ⟨r, ⟨c1, _, _⟩, e, _⟩
  · exact absurd e hne
  · have ht := gT_ok h.1.1 h0 h1
    unfold Task.ok at ht
    rw [gI_zeros] at e
    omega
end Go.Proofs.YtfngcejaphhmmaaGreatDoor
