import Derived.Test.YtnlciginmeebhaaD10
import Derived.Test.YtnlciginmeebhaaSQ
import Derived.Test.YtnlciginmeebhaaS4
import Derived.Test.YtnlciginmeebhaaS8
namespace Go.Proofs.Ytnlciginmeebhaa
open Go.Abs Go.Ds
set_option linter.unusedSimpArgs false
set_option linter.unusedVariables false
set_option maxRecDepth 20000
set_option maxHeartbeats 2000000
theorem SrvAns.data {σ : List AB} {x : AV} {run fin ch : List Int} {sd : List (List Int)} (h : SrvAns σ x run fin ch sd) : x.data = true := by
  obtain ⟨v1, v2, v3, v4, rfl, r1, r2, r3, r4⟩ := h
  simp only [r1.data, r2.data, r3.data, r4.data, not_true_eq_false, not_false_eq_true, decide_true, decide_false, Bool.not_true, Bool.not_false, false_implies, true_implies, and_true, true_and, Bool.false_eq_true, Bool.true_eq_false, implies_true, Bool.not_not, Classical.not_not, go_sem, Int.reduceToNat, List.take_nil, Nat.zero_mul, Nat.reduceEqDiff, Nat.reduceAdd, Nat.reduceLT, Nat.reduceLeDiff, Nat.reduceMul, ↓reduceIte, reduceCtorEq]
theorem srv_lens (S : List Task) (L : List Job) (X : List Srv) (AA : List (List Arr)) (hok : srvRunOk S L X AA) : (srvRun X AA L).length = 120 ∧ (srvFin X AA L).length = L.length ∧ (srvCh X AA L).length = 120 ∧ (srvSd X AA L).length = X.length ∧ ∀ r ∈ srvSd X AA L, r.length ≤ 20 := by
  have hl := (sim_lens (L := L) (pick := srvPick X AA L) (s0 := ss0 X AA) 120).2
  change (srvS X AA L 120).fin.length = L.length ∧ (srvS X AA L 120).run.length = 120 at hl
  have hss := ss_len (L := L) hok.2.2.1 120
  refine ⟨hl.2, hl.1, hss.2.1, hss.1, fun r hr => ?_⟩
  obtain ⟨k, hk, rfl⟩ := List.getElem_of_mem hr
  have hkX : k < X.length := by rw [← hss.1]; exact hk
  have h1 := hss.2.2 k hkX
  have h2 : (srvSd X AA L)[k] = Go.Ds.gR (srvSd X AA L) k := by simp [Go.Ds.gR, List.getD_eq_getElem?_getD, hk]
  rw [h2, show Go.Ds.gR (srvSd X AA L) k = Go.Ds.gR (srvS X AA L 120).st.sd k from rfl, h1]
  exact (arrsOk.at hok.2.2 hkX).1
end Go.Proofs.Ytnlciginmeebhaa
