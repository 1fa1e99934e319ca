import Derived.Test.YtnlciginmeebhaaV37
import Derived.Test.YtnlciginmeebhaaS69
import Derived.Test.YtnlciginmeebhaaS14
namespace Go.Proofs.Ytnlciginmeebhaa
open Go.Abs Go.Ds
set_option linter.unusedSimpArgs false
set_option linter.unusedVariables false
set_option maxRecDepth 20000
set_option maxHeartbeats 2000000
theorem laws_FnServerIsolation0 (C : List Nat) (hC : ∀ x ∈ C, x < 256) (c : Nat) (hc : C.length ≤ c) : CallWp Try.prog n_laws_FnServerIsolation [.sl 0 0 C.length c] [.ro (encByte.row C)] (fun x _ => x = .b true) := by
  refine call_laws_FnServerIsolation (by simp) ?_
  simp only [c_laws_FnServerIsolation, go_sem, Int.reduceToNat, List.take_nil, Nat.zero_mul, Nat.reduceEqDiff, Nat.reduceAdd, Nat.reduceLT, Nat.reduceLeDiff, Nat.reduceMul, ↓reduceIte, reduceCtorEq]
  refine ⟨fun h => Fin.plain rfl, fun h => ?_⟩
  refine (spec_DrawRunServers0 C hC c).mono ?_
  rintro x σ _ ⟨S, L, X, AA, a, b, d, e, ca, cb, cd, ce, rfl, hSc, hLc, hXc, hA, hS8, hL62, hX3, ⟨hXA, hA4⟩, hAl⟩
  have rS : ∀ τ, Rd encTask (σ ++ τ) (.sl a 0 S.length ca) S := fun τ => Rd.own' (cells_old hSc τ) rfl
  have rL : ∀ τ, Rd encJob (σ ++ τ) (.sl b 0 L.length cb) L := fun τ => Rd.own' (cells_old hLc τ) rfl
  have rX : ∀ τ, Rd encSrv (σ ++ τ) (.sl d 0 X.length cd) X := fun τ => Rd.own' (cells_old hXc τ) rfl
  have rA : ∀ τ, RdA (σ ++ τ) (.sl e 0 AA.length ce) AA := fun τ => hA.app
  have hS0 : Rd encTask σ (.sl a 0 S.length ca) S := Rd.own' hSc rfl
  have hX0 : Rd encSrv σ (.sl d 0 X.length cd) X := Rd.own' hXc rfl
  have hAb : ∀ A ∈ AA, A.length ≤ 1000 := fun A hA => by have := hAl A hA; omega
  simp only [not_true_eq_false, not_false_eq_true, decide_true, decide_false, Bool.not_true, Bool.not_false, false_implies, true_implies, and_true, true_and, Bool.false_eq_true, Bool.true_eq_false, implies_true, Bool.not_not, Classical.not_not, go_sem, Int.reduceToNat, List.take_nil, Nat.zero_mul, Nat.reduceEqDiff, Nat.reduceAdd, Nat.reduceLT, Nat.reduceLeDiff, Nat.reduceMul, ↓reduceIte, reduceCtorEq]
  refine impl_RunServers_ (S := S) (L := L) (X := X) (AA := AA) (by omega) (by omega) (by omega) (by omega) hAb hS0 hLc hX0 hA (fun hno τ => ?_) (fun hok τ x hx => ?_)
  · have rS1 : ∀ ω, Rd encTask ((σ ++ τ) ++ ω) (.sl a 0 S.length ca) S := fun ω => (rS τ).app
    have rL1 : ∀ ω, Rd encJob ((σ ++ τ) ++ ω) (.sl b 0 L.length cb) L := fun ω => (rL τ).app
    have rX1 : ∀ ω, Rd encSrv ((σ ++ τ) ++ ω) (.sl d 0 X.length cd) X := fun ω => (rX τ).app
    have rA1 : ∀ ω, RdA ((σ ++ τ) ++ ω) (.sl e 0 AA.length ce) AA := fun ω => (rA τ).app
    generalize σ ++ τ = H1 at *
    simp only [at_new0, set_new0, not_true_eq_false, not_false_eq_true, decide_true, decide_false, Bool.not_true, Bool.not_false, false_implies, true_implies, and_true, true_and, Bool.false_eq_true, Bool.true_eq_false, implies_true, Bool.not_not, Classical.not_not, go_sem, Int.reduceToNat, List.take_nil, Nat.zero_mul, Nat.reduceEqDiff, Nat.reduceAdd, Nat.reduceLT, Nat.reduceLeDiff, Nat.reduceMul, ↓reduceIte, reduceCtorEq]
    refine spec_RunServers_ (S := S) (L := L) (X := X) (AA := AA) (by omega) (by omega) (by omega) (by omega) hAb (rS1 _) (rL1 _) (rX1 _) (rA1 _) (fun _ ω => ?_) (fun hok => absurd hok hno)
    simp only [List.append_assoc, List.cons_append, List.nil_append, at_new0, not_true_eq_false, not_false_eq_true, decide_true, decide_false, Bool.not_true, Bool.not_false, false_implies, true_implies, and_true, true_and, Bool.false_eq_true, Bool.true_eq_false, implies_true, Bool.not_not, Classical.not_not, go_sem, Int.reduceToNat, List.take_nil, Nat.zero_mul, Nat.reduceEqDiff, Nat.reduceAdd, Nat.reduceLT, Nat.reduceLeDiff, Nat.reduceMul, ↓reduceIte, reduceCtorEq]
    refine laws_sameRun_ (SrvAns.none (by simp; omega)) (SrvAns.none (by simp; omega)) (by simp) (by simp) (by simp) (by simp) (by simp) fun ω2 => ?_
    simp only [List.append_assoc, List.cons_append, List.nil_append, at_new0, not_true_eq_false, not_false_eq_true, decide_true, decide_false, Bool.not_true, Bool.not_false, false_implies, true_implies, and_true, true_and, Bool.false_eq_true, Bool.true_eq_false, implies_true, Bool.not_not, Classical.not_not, go_sem, Int.reduceToNat, List.take_nil, Nat.zero_mul, Nat.reduceEqDiff, Nat.reduceAdd, Nat.reduceLT, Nat.reduceLeDiff, Nat.reduceMul, ↓reduceIte, reduceCtorEq]
    refine ⟨fun h0 => absurd h0 (by omega), fun _ => laws_alive_ ?_⟩
    simp only [not_true_eq_false, not_false_eq_true, decide_true, decide_false, Bool.not_true, Bool.not_false, false_implies, true_implies, and_true, true_and, Bool.false_eq_true, Bool.true_eq_false, implies_true, Bool.not_not, Classical.not_not, go_sem, Int.reduceToNat, List.take_nil, Nat.zero_mul, Nat.reduceEqDiff, Nat.reduceAdd, Nat.reduceLT, Nat.reduceLeDiff, Nat.reduceMul, ↓reduceIte, reduceCtorEq]
    exact Fin.plain rfl
  · obtain ⟨v1, v2, v3, v4, rfl, r1, r2, r3, r4⟩ := hx.plain
    have rS1 : ∀ ω, Rd encTask ((σ ++ τ) ++ ω) (.sl a 0 S.length ca) S := fun ω => (rS τ).app
    have rL1 : ∀ ω, Rd encJob ((σ ++ τ) ++ ω) (.sl b 0 L.length cb) L := fun ω => (rL τ).app
    have rX1 : ∀ ω, Rd encSrv ((σ ++ τ) ++ ω) (.sl d 0 X.length cd) X := fun ω => (rX τ).app
    have rA1 : ∀ ω, RdA ((σ ++ τ) ++ ω) (.sl e 0 AA.length ce) AA := fun ω => (rA τ).app
    have cL1 : ∀ ω, cellsOf ((σ ++ τ) ++ ω) b = some (encJob.row L) := fun ω => cells_old (cells_old hLc τ) ω
    have hlens := srv_lens S L X AA hok
    have hxp := fun ω => (hx.plain).app (τ := ω)
    clear hx
    generalize σ ++ τ = H1 at *
    simp only [at_new0, set_new0, r1.data, r2.data, r3.data, r4.data, not_true_eq_false, not_false_eq_true, decide_true, decide_false, Bool.not_true, Bool.not_false, false_implies, true_implies, and_true, true_and, Bool.false_eq_true, Bool.true_eq_false, implies_true, Bool.not_not, Classical.not_not, go_sem, Int.reduceToNat, List.take_nil, Nat.zero_mul, Nat.reduceEqDiff, Nat.reduceAdd, Nat.reduceLT, Nat.reduceLeDiff, Nat.reduceMul, ↓reduceIte, reduceCtorEq]
    refine spec_RunServers_ (S := S) (L := L) (X := X) (AA := AA) (by omega) (by omega) (by omega) (by omega) hAb (rS1 _) (rL1 _) (rX1 _) (rA1 _) (fun hno => absurd hok hno) (fun _ ω y hy => ?_)
    simp only [List.append_assoc, List.cons_append, List.nil_append, at_new0, not_true_eq_false, not_false_eq_true, decide_true, decide_false, Bool.not_true, Bool.not_false, false_implies, true_implies, and_true, true_and, Bool.false_eq_true, Bool.true_eq_false, implies_true, Bool.not_not, Classical.not_not, go_sem, Int.reduceToNat, List.take_nil, Nat.zero_mul, Nat.reduceEqDiff, Nat.reduceAdd, Nat.reduceLT, Nat.reduceLeDiff, Nat.reduceMul, ↓reduceIte, reduceCtorEq]
    simp only [List.append_assoc, List.cons_append, List.nil_append] at hy
    refine ⟨by rw [hy.data]; rfl, laws_sameRun_ (hxp _) hy (by omega) (by omega) (by omega) (by omega) (fun r hr => by have := hlens.2.2.2.2 r hr; omega) fun ω2 => ?_⟩
    have hlc := hlens.2.2.1
    have r3c := r3
    rcases r3 with ⟨n3, o3, c3, cs3, rfl, _, hc3, hl3, hw3⟩ | ⟨_, h0, _⟩
    rotate_left
    · rw [h0] at hlc; cases hlc
    simp only [List.append_assoc, List.cons_append, List.nil_append, at_new0, hlc, not_true_eq_false, not_false_eq_true, decide_true, decide_false, Bool.not_true, Bool.not_false, false_implies, true_implies, and_true, true_and, Bool.false_eq_true, Bool.true_eq_false, implies_true, Bool.not_not, Classical.not_not, go_sem, Int.reduceToNat, List.take_nil, Nat.zero_mul, Nat.reduceEqDiff, Nat.reduceAdd, Nat.reduceLT, Nat.reduceLeDiff, Nat.reduceMul, ↓reduceIte, reduceCtorEq]
    refine ⟨fun _ => ?_, fun h0 => absurd rfl h0⟩
    refine impl_ServersFeasible_ (S := S) (X := X) (by omega) (by omega) (rS1 _) (rX1 _) ?_
    simp only [not_true_eq_false, not_false_eq_true, decide_true, decide_false, Bool.not_true, Bool.not_false, false_implies, true_implies, and_true, true_and, Bool.false_eq_true, Bool.true_eq_false, implies_true, Bool.not_not, Classical.not_not, go_sem, Int.reduceToNat, List.take_nil, Nat.zero_mul, Nat.reduceEqDiff, Nat.reduceAdd, Nat.reduceLT, Nat.reduceLeDiff, Nat.reduceMul, ↓reduceIte, reduceCtorEq]
    refine ⟨fun hf => laws_alive_ ?_, fun hf => ?_⟩
    · simp only [not_true_eq_false, not_false_eq_true, decide_true, decide_false, Bool.not_true, Bool.not_false, false_implies, true_implies, and_true, true_and, Bool.false_eq_true, Bool.true_eq_false, implies_true, Bool.not_not, Classical.not_not, go_sem, Int.reduceToNat, List.take_nil, Nat.zero_mul, Nat.reduceEqDiff, Nat.reduceAdd, Nat.reduceLT, Nat.reduceLeDiff, Nat.reduceMul, ↓reduceIte, reduceCtorEq]
      exact Fin.plain rfl
    · have hm : missedL L (srvFin X AA L) = [] := srv_safe hok.1 hf
      simp only [at_new0, not_true_eq_false, not_false_eq_true, decide_true, decide_false, Bool.not_true, Bool.not_false, false_implies, true_implies, and_true, true_and, Bool.false_eq_true, Bool.true_eq_false, implies_true, Bool.not_not, Classical.not_not, go_sem, Int.reduceToNat, List.take_nil, Nat.zero_mul, Nat.reduceEqDiff, Nat.reduceAdd, Nat.reduceLT, Nat.reduceLeDiff, Nat.reduceMul, ↓reduceIte, reduceCtorEq]
      refine impl_Missed_ (L := L) (fin := srvFin X AA L) (by omega) hlens.2.1 (rL1 _) r2.app (fun _ => ?_) (fun h => absurd hm h)
      simp only [not_true_eq_false, not_false_eq_true, decide_true, decide_false, Bool.not_true, Bool.not_false, false_implies, true_implies, and_true, true_and, Bool.false_eq_true, Bool.true_eq_false, implies_true, Bool.not_not, Classical.not_not, go_sem, Int.reduceToNat, List.take_nil, Nat.zero_mul, Nat.reduceEqDiff, Nat.reduceAdd, Nat.reduceLT, Nat.reduceLeDiff, Nat.reduceMul, ↓reduceIte, reduceCtorEq]
      exact Fin.plain rfl
theorem c_FnServerIsolation (C : List Nat) (c : Nat) (hC : ∀ x ∈ C, x < 256) (_ : C.length * 1 ≤ 140737488351232) (hc : C.length ≤ c) :
    CallWp Try.prog n_laws_FnServerIsolation [.sl 0 0 C.length c] [.ro (encByte.row C)] (fun x _ => x = .b true) := laws_FnServerIsolation0 C hC c hc
end Go.Proofs.Ytnlciginmeebhaa
