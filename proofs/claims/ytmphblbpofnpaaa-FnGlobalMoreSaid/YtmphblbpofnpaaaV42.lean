import Derived.Test.YtmphblbpofnpaaaS83
namespace Go.Proofs.Ytmphblbpofnpaaa
open Go.Abs Go.Ds
set_option linter.unusedSimpArgs false
set_option linter.unusedVariables false
set_option maxRecDepth 20000
set_option maxHeartbeats 2000000
theorem laws_FnGlobalMore0 (C : List Nat) (hC : ∀ x ∈ C, x < 256) (c : Nat) (hc : C.length ≤ c) : CallWp Try.prog n_laws_FnGlobalMore [.sl 0 0 C.length c] [.ro (encByte.row C)] (fun x _ => x = .b true) := by
  refine call_laws_FnGlobalMore (by simp) ?_
  simp only [c_laws_FnGlobalMore, go_sem, Int.reduceToNat, List.take_nil, Nat.zero_mul, Nat.reduceEqDiff, Nat.reduceAdd, Nat.reduceLT, Nat.reduceLeDiff, Nat.reduceMul, ↓reduceIte, reduceCtorEq]
  refine ⟨fun h => Fin.plain rfl, fun h => ?_⟩
  refine (spec_DrawRunGlobal0 C hC c hc).mono ?_
  rintro x σ' _ ⟨S, L, cap, cap', m, rfl, rfl, ⟨hS8, hS⟩, hL62, hm1, hm2⟩
  obtain ⟨σ, eσ⟩ : ∃ σ : List AB, σ = [.ro (encByte.row C), .rw ty_impl_Task (encTask.row S) (cap * 3), .rw ty_impl_Job (encJob.row L) (cap' * 4)] := ⟨_, rfl⟩
  have hSc : cellsOf σ 1 = some (encTask.row S) := by rw [eσ]; rfl
  have hLc : cellsOf σ 2 = some (encJob.row L) := by rw [eσ]; rfl
  have h0 : 0 < σ.length := by rw [eσ]; simp
  rw [← eσ]
  have rS : ∀ τ, Rd encTask (σ ++ τ) (.sl 1 0 S.length cap) S := fun τ => Rd.own (cells_old hSc τ)
  have rL : ∀ τ, Rd encJob (σ ++ τ) (.sl 2 0 L.length cap') L := fun τ => Rd.own (cells_old hLc τ)
  have hS0 : Rd encTask σ (.sl 1 0 S.length cap) S := Rd.own hSc
  simp only [not_true_eq_false, not_false_eq_true, decide_true, decide_false, Bool.not_true, Bool.not_false, false_implies, true_implies, and_true, true_and, Bool.false_eq_true, Bool.true_eq_false, implies_true, Bool.not_not, Classical.not_not, go_sem, Int.reduceToNat, List.take_nil, Nat.zero_mul, Nat.reduceEqDiff, Nat.reduceAdd, Nat.reduceLT, Nat.reduceLeDiff, Nat.reduceMul, ↓reduceIte, reduceCtorEq]
  refine impl_RunGlobal_ (S := S) (L := L) (by omega) (by omega) hS0 hLc (fun hno τ => ?_) (fun M eM hok τ x hx => ?_)
  · have rS1 : ∀ ω, Rd encTask ((σ ++ τ) ++ ω) (.sl 1 0 S.length cap) S := fun ω => (rS τ).app
    have rL1 : ∀ ω, Rd encJob ((σ ++ τ) ++ ω) (.sl 2 0 L.length cap') L := fun ω => (rL τ).app
    generalize σ ++ τ = H1 at *
    simp only [at_new0, set_new0, not_true_eq_false, not_false_eq_true, decide_true, decide_false, Bool.not_true, Bool.not_false, false_implies, true_implies, and_true, true_and, Bool.false_eq_true, Bool.true_eq_false, implies_true, Bool.not_not, Classical.not_not, go_sem, Int.reduceToNat, List.take_nil, Nat.zero_mul, Nat.reduceEqDiff, Nat.reduceAdd, Nat.reduceLT, Nat.reduceLeDiff, Nat.reduceMul, ↓reduceIte, reduceCtorEq]
    refine spec_RunGlobal_ (S := S) (L := L) (by omega) (by omega) (rS1 _) (rL1 _) (fun _ ω => ?_) (fun M _ hok => absurd hok hno)
    simp only [List.append_assoc, List.cons_append, List.nil_append, at_new0, not_true_eq_false, not_false_eq_true, decide_true, decide_false, Bool.not_true, Bool.not_false, false_implies, true_implies, and_true, true_and, Bool.false_eq_true, Bool.true_eq_false, implies_true, Bool.not_not, Classical.not_not, go_sem, Int.reduceToNat, List.take_nil, Nat.zero_mul, Nat.reduceEqDiff, Nat.reduceAdd, Nat.reduceLT, Nat.reduceLeDiff, Nat.reduceMul, ↓reduceIte, reduceCtorEq]
    refine laws_sameGlobal_ (GlobAns.none (by simp; omega)) (GlobAns.none (by simp; omega)) (by simp) (by simp) (by simp) fun ω2 => ?_
    simp only [List.append_assoc, List.cons_append, List.nil_append, at_new0, not_true_eq_false, not_false_eq_true, decide_true, decide_false, Bool.not_true, Bool.not_false, false_implies, true_implies, and_true, true_and, Bool.false_eq_true, Bool.true_eq_false, implies_true, Bool.not_not, Classical.not_not, go_sem, Int.reduceToNat, List.take_nil, Nat.zero_mul, Nat.reduceEqDiff, Nat.reduceAdd, Nat.reduceLT, Nat.reduceLeDiff, Nat.reduceMul, ↓reduceIte, reduceCtorEq]
    refine ⟨fun h0 => absurd h0 (by decide), fun _ => laws_alive_ ?_⟩
    simp only [not_true_eq_false, not_false_eq_true, decide_true, decide_false, Bool.not_true, Bool.not_false, false_implies, true_implies, and_true, true_and, Bool.false_eq_true, Bool.true_eq_false, implies_true, Bool.not_not, Classical.not_not, go_sem, Int.reduceToNat, List.take_nil, Nat.zero_mul, Nat.reduceEqDiff, Nat.reduceAdd, Nat.reduceLT, Nat.reduceLeDiff, Nat.reduceMul, ↓reduceIte, reduceCtorEq]
    exact Fin.plain rfl
  · subst eM
    have hM : 1 ≤ (M : Int) ∧ (M : Int) ≤ 5 := hok.2
    have hE := jl_E hok.1
    obtain ⟨v1, v2, rfl, r1, r2⟩ := hx.plain
    have rS1 : ∀ ω, Rd encTask ((σ ++ τ) ++ ω) (.sl 1 0 S.length cap) S := fun ω => (rS τ).app
    have rL1 : ∀ ω, Rd encJob ((σ ++ τ) ++ ω) (.sl 2 0 L.length cap') L := fun ω => (rL τ).app
    have cL1 : ∀ ω, cellsOf ((σ ++ τ) ++ ω) 2 = some (encJob.row L) := fun ω => cells_old (cells_old hLc τ) ω
    have hxp := fun ω => (hx.plain).app (τ := ω)
    clear hx
    generalize σ ++ τ = H1 at *
    simp only [at_new0, set_new0, r1.data, r2.data, not_true_eq_false, not_false_eq_true, decide_true, decide_false, Bool.not_true, Bool.not_false, false_implies, true_implies, and_true, true_and, Bool.false_eq_true, Bool.true_eq_false, implies_true, Bool.not_not, Classical.not_not, go_sem, Int.reduceToNat, List.take_nil, Nat.zero_mul, Nat.reduceEqDiff, Nat.reduceAdd, Nat.reduceLT, Nat.reduceLeDiff, Nat.reduceMul, ↓reduceIte, reduceCtorEq]
    refine spec_RunGlobal_ (S := S) (L := L) (by omega) (by omega) (rS1 _) (rL1 _) (fun hno => absurd hok hno) (fun M2 e2 _ ω y hy => ?_)
    obtain rfl : M = M2 := by omega
    have hy := hy.plain
    simp only [List.append_assoc, List.cons_append, List.nil_append, at_new0, not_true_eq_false, not_false_eq_true, decide_true, decide_false, Bool.not_true, Bool.not_false, false_implies, true_implies, and_true, true_and, Bool.false_eq_true, Bool.true_eq_false, implies_true, Bool.not_not, Classical.not_not, go_sem, Int.reduceToNat, List.take_nil, Nat.zero_mul, Nat.reduceEqDiff, Nat.reduceAdd, Nat.reduceLT, Nat.reduceLeDiff, Nat.reduceMul, ↓reduceIte, reduceCtorEq]
    simp only [List.append_assoc, List.cons_append, List.nil_append] at hy
    have hlf : (gFin L M).length = L.length := (gSt_len L M 120).2
    refine ⟨by rw [hy.data]; rfl, laws_sameGlobal_ (hxp _) hy (by rw [gRows_len]; omega) (by omega) (gRows_row (by omega)) fun ω2 => ?_⟩
    have hlr := gRows_len L M
    rcases r1 with ⟨n1, o1, c1, cs1, rfl, hc1, hl1, hr1⟩ | ⟨_, hz, _⟩
    rotate_left
    · rw [hz] at hlr; cases hlr
    simp only [List.append_assoc, List.cons_append, List.nil_append, at_new0, hlr, not_true_eq_false, not_false_eq_true, decide_true, decide_false, Bool.not_true, Bool.not_false, false_implies, true_implies, and_true, true_and, Bool.false_eq_true, Bool.true_eq_false, implies_true, Bool.not_not, Classical.not_not, go_sem, Int.reduceToNat, List.take_nil, Nat.zero_mul, Nat.reduceEqDiff, Nat.reduceAdd, Nat.reduceLT, Nat.reduceLeDiff, Nat.reduceMul, ↓reduceIte, reduceCtorEq]
    refine ⟨fun _ => ⟨fun h5 => impl_DensityFeasible_ (S := S) (by omega) (rS1 _) ?_, fun h5 => laws_alive_ ?_⟩, fun h0 => absurd rfl h0⟩
    rotate_left
    · simp only [not_true_eq_false, not_false_eq_true, decide_true, decide_false, Bool.not_true, Bool.not_false, false_implies, true_implies, and_true, true_and, Bool.false_eq_true, Bool.true_eq_false, implies_true, Bool.not_not, Classical.not_not, go_sem, Int.reduceToNat, List.take_nil, Nat.zero_mul, Nat.reduceEqDiff, Nat.reduceAdd, Nat.reduceLT, Nat.reduceLeDiff, Nat.reduceMul, ↓reduceIte, reduceCtorEq]
      exact Fin.plain rfl
    simp only [not_true_eq_false, not_false_eq_true, decide_true, decide_false, Bool.not_true, Bool.not_false, false_implies, true_implies, and_true, true_and, Bool.false_eq_true, Bool.true_eq_false, implies_true, Bool.not_not, Classical.not_not, go_sem, Int.reduceToNat, List.take_nil, Nat.zero_mul, Nat.reduceEqDiff, Nat.reduceAdd, Nat.reduceLT, Nat.reduceLeDiff, Nat.reduceMul, ↓reduceIte, reduceCtorEq]
    refine ⟨fun hd => laws_alive_ ?_, fun hd => ?_⟩
    · simp only [not_true_eq_false, not_false_eq_true, decide_true, decide_false, Bool.not_true, Bool.not_false, false_implies, true_implies, and_true, true_and, Bool.false_eq_true, Bool.true_eq_false, implies_true, Bool.not_not, Classical.not_not, go_sem, Int.reduceToNat, List.take_nil, Nat.zero_mul, Nat.reduceEqDiff, Nat.reduceAdd, Nat.reduceLT, Nat.reduceLeDiff, Nat.reduceMul, ↓reduceIte, reduceCtorEq]
      exact Fin.plain rfl
    · have hok2 : globOk S L ((M : Int) + 1) := ⟨hok.1, by omega⟩
      refine ⟨by omega, impl_RunGlobal_ (S := S) (L := L) (by omega) (by omega) (rS1 _) (cL1 _) (fun hno => absurd hok2 hno) fun M2 e2 _ τ2 x2 hx2 => ?_⟩
      obtain rfl : M2 = M + 1 := by omega
      obtain ⟨u1, u2, rfl, s1, s2⟩ := hx2.plain
      have hlf2 : (gFin L (M + 1)).length = L.length := (gSt_len L (M + 1) 120).2
      simp only [s1.data, s2.data, not_true_eq_false, not_false_eq_true, decide_true, decide_false, Bool.not_true, Bool.not_false, false_implies, true_implies, and_true, true_and, Bool.false_eq_true, Bool.true_eq_false, implies_true, Bool.not_not, Classical.not_not, go_sem, Int.reduceToNat, List.take_nil, Nat.zero_mul, Nat.reduceEqDiff, Nat.reduceAdd, Nat.reduceLT, Nat.reduceLeDiff, Nat.reduceMul, ↓reduceIte, reduceCtorEq]
      have rLL := (rL1 (AB.rw ty_impl_GlobalRun [AV.sl n1 o1 120 c1, v2] 2 :: (ω ++ ω2))).app (τ := τ2)
      refine impl_GlobalMissed_ (L := L) (F := gFin L (M + 1)) (by omega) hlf2 rLL s1.data ?_ s2 (global_safe hok.1 (by omega) ?_) fun τ3 => ?_
      · rcases s1 with ⟨_, _, _, _, rfl, _⟩ | ⟨rfl, _⟩ <;> rfl
      · have := dens_more hok.1.1 hd.2.2
        rwa [show ((M + 1 : Nat) : Int) = (M : Int) + 1 by omega]
      · simp only [not_true_eq_false, not_false_eq_true, decide_true, decide_false, Bool.not_true, Bool.not_false, false_implies, true_implies, and_true, true_and, Bool.false_eq_true, Bool.true_eq_false, implies_true, Bool.not_not, Classical.not_not, go_sem, Int.reduceToNat, List.take_nil, Nat.zero_mul, Nat.reduceEqDiff, Nat.reduceAdd, Nat.reduceLT, Nat.reduceLeDiff, Nat.reduceMul, ↓reduceIte, reduceCtorEq]
        exact Fin.plain rfl
theorem c_FnGlobalMore (C : List Nat) (c : Nat) (hC : ∀ x ∈ C, x < 256) (_ : C.length * 1 ≤ 140737488351232) (hc : C.length ≤ c) :
    CallWp Try.prog n_laws_FnGlobalMore [.sl 0 0 C.length c] [.ro (encByte.row C)] (fun x _ => x = .b true) := laws_FnGlobalMore0 C hC c hc
end Go.Proofs.Ytmphblbpofnpaaa
