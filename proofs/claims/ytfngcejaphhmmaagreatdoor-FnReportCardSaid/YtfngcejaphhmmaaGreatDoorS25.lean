import Derived.Test.YtfngcejaphhmmaaGreatDoorS19
import Derived.Test.YtfngcejaphhmmaaGreatDoorAbsY
import Derived.Test.YtfngcejaphhmmaaGreatDoorMY
namespace Go.Proofs.YtfngcejaphhmmaaGreatDoor
open Go.Abs Go.Ds
set_option linter.unusedSimpArgs false
set_option linter.unusedVariables false
set_option maxRecDepth 20000
set_option maxHeartbeats 1000000
theorem Rd.owL {α : Type} {E : Enc α} {σ : List AB} {n len cap : Nat} {L : List α} (h : cellsOf σ n = some (E.row L)) (hl : L.length = len) : Rd E σ (.sl n 0 len cap) L := by subst hl; exact Rd.own h
theorem Rd.empty {α : Type} {E : Enc α} {σ : List AB} {n cap : Nat} (h : cellsOf σ n = some []) : Rd E σ (.sl n 0 0 cap) [] := Rd.owL (L := []) h rfl
theorem encTf (t : Task) : encTask.f t = [.i .i64 t.C, .i .i64 t.D, .i .i64 t.P] := rfl
theorem slices_Clip_Task_nil {σ : List AB} {K : AV → List AB → Prop} (hk : K .sn σ) : CallWp Tryz.prog n_slices_Clip_impl_Task [.sn] σ K := by
  refine call_slices_Clip_impl_Task (by simp) ?_
  simp only [c_slices_Clip_impl_Task, go_sem, Int.reduceToNat, List.take_nil, Nat.zero_mul, Nat.reduceEqDiff, Nat.reduceAdd, Nat.reduceLT, Nat.reduceLeDiff, Nat.reduceMul, ↓reduceIte, reduceCtorEq]
  exact ⟨by omega, by omega, Fin.plain hk⟩
theorem slices_Clip_Task_ {σ : List AB} {i n c : Nat} (hc : n ≤ c) {K : AV → List AB → Prop} (hk : K (.sl i 0 n n) σ) : CallWp Tryz.prog n_slices_Clip_impl_Task [.sl i 0 n c] σ K := by
  refine call_slices_Clip_impl_Task (by simp) ?_
  simp only [c_slices_Clip_impl_Task, go_sem, Int.reduceToNat, List.take_nil, Nat.zero_mul, Nat.reduceEqDiff, Nat.reduceAdd, Nat.reduceLT, Nat.reduceLeDiff, Nat.reduceMul, ↓reduceIte, reduceCtorEq]
  exact ⟨⟨.inl (Nat.le_refl _), hc⟩, Fin.plain hk⟩
def OnP (N : Nat) (M : List Task) (x : AV) (τ : List AB) : Prop := (M = [] ∧ x = .sn ∧ τ = []) ∨ ∃ c', x = .sl N 0 M.length M.length ∧ τ = [.rw ty_impl_Task (encTask.row M) c']
theorem OnP.fr {N : Nat} {M : List Task} {x : AV} {τ : List AB} (h : OnP N M x τ) : τ.all plainRw = true ∧ freshA N x = true := by
  rcases h with ⟨_, rfl, rfl⟩ | ⟨c, rfl, rfl⟩
  · exact ⟨rfl, rfl⟩
  · simp [plainRw, encTask.row_flat, freshA, fresh1A, freshC]
def OnQ (N : Nat) (M : List Task) (x : AV) (τ : List AB) : Prop := ∃ c, x = .sl N 0 M.length c ∧ M.length ≤ c ∧ τ = [.rw ty_impl_Task (encTask.row M) (c * 3)]
theorem OnQ.fr {N : Nat} {M : List Task} {x : AV} {τ : List AB} (h : OnQ N M x τ) : τ.all plainRw = true ∧ freshA N x = true := by
  obtain ⟨c, rfl, _, rfl⟩ := h
  simp [plainRw, encTask.row_flat, freshA, fresh1A, freshC]
def onV (M : List Task) : Option Nat → AV
  | none => .sn
  | some cap => .sl 2 0 M.length cap
def onB (M : List Task) : Option Nat → List AB
  | none => []
  | some cap => [.rw ty_impl_Task (encTask.row M) (cap * 3)]
def onJ (M : List Task) : Option Nat → Prop
  | none => M = []
  | some cap => M.length ≤ cap
theorem impl_onCore0 (S : List Task) (A : List Int) (v : Int) (hs : S.length ≤ 1000) (hl : A.length ≤ S.length) (c c' : Nat) : CallWp Tryz.prog n_impl_onCore [.sl 0 0 S.length c, .sl 1 0 A.length c', .i .i64 v] [.ro (encTask.row S), .ro (encInt.row A)]
    (fun x σ' => ∃ τ, σ' = [.ro (encTask.row S), .ro (encInt.row A)] ++ τ ∧ OnP 2 (onC S A v A.length) x τ) := by
  refine call_impl_onCore (by simp) ?_
  simp only [c_impl_onCore, go_sem, Int.reduceToNat, List.take_nil, Nat.zero_mul, Nat.reduceEqDiff, Nat.reduceAdd, Nat.reduceLT, Nat.reduceLeDiff, Nat.reduceMul, ↓reduceIte, reduceCtorEq]
  refine loop_intro (fun i : Nat × Option Nat => ⟨[(0, .sl 0 0 S.length c), (2, .i .i64 v), (7, onV (onC S A v i.1) i.2), (10, .sl 1 0 A.length c'), (11, .i .i64 A.length), (12, .i .i64 i.1)], .ro (encTask.row S) :: .ro (encInt.row A) :: onB (onC S A v i.1) i.2⟩) (fun i => i.1 ≤ A.length ∧ onJ (onC S A v i.1) i.2) (fun i => A.length - i.1) (0, none) ⟨Nat.zero_le _, by simp [onJ, onC_zero]⟩ (by rw [show onC S A v (0, (none : Option Nat)).1 = [] from onC_zero S A v]; simp only [onV, onB]; exact Wk.pick [0, 1]) ?_
  rintro ⟨k, o⟩ ⟨hk, hJ⟩
  simp only at hk hJ
  simp only [l0_impl_onCore, not_true_eq_false, not_false_eq_true, decide_true, decide_false, Bool.not_true, Bool.not_false, false_implies, true_implies, and_true, true_and, Bool.false_eq_true, Bool.true_eq_false, implies_true, Bool.not_not, Classical.not_not, go_sem, Int.reduceToNat, List.take_nil, Nat.zero_mul, Nat.reduceEqDiff, Nat.reduceAdd, Nat.reduceLT, Nat.reduceLeDiff, Nat.reduceMul, ↓reduceIte, reduceCtorEq]
  refine ⟨fun hlt => ?_, fun hge => ?_⟩
  · have hkS : k < S.length := by omega
    have hsucc := onC_snoc (S := S) (A := A) v hkS hlt
    have gt : gT S k = S[k] := by simp [gT, List.getD_eq_getElem?_getD, hkS]
    have ga : gI A k = A[k] := by simp [gI, List.getD_eq_getElem?_getD, hlt]
    rw [gt, ga] at hsucc
    have hmono := (onC_sub S A v k).length_le
    generalize onC S A v k = M at *
    cases o with
    | none =>
      simp only [onJ] at hJ
      subst hJ
      simp only [onV, onB, rdI hlt, winT hkS, encTf, lenT, lenI, not_true_eq_false, not_false_eq_true, decide_true, decide_false, Bool.not_true, Bool.not_false, false_implies, true_implies, and_true, true_and, Bool.false_eq_true, Bool.true_eq_false, implies_true, Bool.not_not, Classical.not_not, go_sem, Int.reduceToNat, List.take_nil, Nat.zero_mul, Nat.reduceEqDiff, Nat.reduceAdd, Nat.reduceLT, Nat.reduceLeDiff, Nat.reduceMul, ↓reduceIte, reduceCtorEq]
      refine ⟨hlt, hlt, fun he => ?_, fun he => ?_⟩
      · rw [if_pos he] at hsucc
        refine ⟨hkS, by omega, fun cap hcap => ⟨by omega, (k + 1, some cap), ⟨⟨by simp only; omega, by simp only [onJ, hsucc]; simpa using hcap⟩, by simp only; omega⟩, ?_⟩⟩
        simp only [hsucc, List.nil_append]
        have e3 : encTask.row [S[k]] = [AV.i IntKind.i64 S[k].C, AV.i IntKind.i64 S[k].D, AV.i IntKind.i64 S[k].P] := rfl
        simp only [e3]
        exact Wk.pick [0, 1, 3]
      · rw [if_neg he] at hsucc
        refine ⟨by omega, (k + 1, none), ⟨⟨by simp only; omega, by simp only [onJ, hsucc]; rfl⟩, by simp only; omega⟩, ?_⟩
        simp only [hsucc, List.nil_append]
        exact Wk.pick [0, 1]
    | some cap =>
      simp only [onJ] at hJ
      simp only [onV, onB, rdI hlt, winT hkS, encTf, lenT, lenI, not_true_eq_false, not_false_eq_true, decide_true, decide_false, Bool.not_true, Bool.not_false, false_implies, true_implies, and_true, true_and, Bool.false_eq_true, Bool.true_eq_false, implies_true, Bool.not_not, Classical.not_not, go_sem, Int.reduceToNat, List.take_nil, Nat.zero_mul, Nat.reduceEqDiff, Nat.reduceAdd, Nat.reduceLT, Nat.reduceLeDiff, Nat.reduceMul, ↓reduceIte, reduceCtorEq]
      refine ⟨hlt, hlt, fun he => ?_, fun he => ?_⟩
      · rw [if_pos he] at hsucc
        refine ⟨hkS, by omega, by omega, fun cap' hcap => ⟨by omega, (k + 1, some cap'), ⟨⟨by simp only; omega, by simp only [onJ, hsucc]; simpa using hcap⟩, by simp only; omega⟩, ?_⟩⟩
        have e2 : (M ++ [S[k]]).length = M.length + 1 := by simp
        have e3 : List.take (M.length * 3) (encTask.row M) ++ [AV.i IntKind.i64 S[k].C, AV.i IntKind.i64 S[k].D, AV.i IntKind.i64 S[k].P] = encTask.row (M ++ [S[k]]) := by
          simp only [takeT, appT]
        simp only [hsucc, e2, e3]
        exact Wk.pick [0, 1, 4]
      · rw [if_neg he, List.append_nil] at hsucc
        refine ⟨by omega, (k + 1, some cap), ⟨⟨by simp only; omega, by simp only [onJ, hsucc]; exact hJ⟩, by simp only; omega⟩, ?_⟩
        simp only [hsucc]
        exact Wk.pick [0, 1, 2]
  · have ek : k = A.length := by omega
    subst ek
    cases o with
    | none =>
      simp only [onJ] at hJ
      simp only [onV, onB, not_true_eq_false, not_false_eq_true, decide_true, decide_false, Bool.not_true, Bool.not_false, false_implies, true_implies, and_true, true_and, Bool.false_eq_true, Bool.true_eq_false, implies_true, Bool.not_not, Classical.not_not, go_sem, Int.reduceToNat, List.take_nil, Nat.zero_mul, Nat.reduceEqDiff, Nat.reduceAdd, Nat.reduceLT, Nat.reduceLeDiff, Nat.reduceMul, ↓reduceIte, reduceCtorEq]
      refine slices_Clip_Task_nil ?_
      simp only [go_sem, Int.reduceToNat, List.take_nil, Nat.zero_mul, Nat.reduceEqDiff, Nat.reduceAdd, Nat.reduceLT, Nat.reduceLeDiff, Nat.reduceMul, ↓reduceIte, reduceCtorEq]
      exact Fin.plain ⟨[], rfl, .inl ⟨hJ, rfl, rfl⟩⟩
    | some cap =>
      simp only [onJ] at hJ
      simp only [onV, onB, not_true_eq_false, not_false_eq_true, decide_true, decide_false, Bool.not_true, Bool.not_false, false_implies, true_implies, and_true, true_and, Bool.false_eq_true, Bool.true_eq_false, implies_true, Bool.not_not, Classical.not_not, go_sem, Int.reduceToNat, List.take_nil, Nat.zero_mul, Nat.reduceEqDiff, Nat.reduceAdd, Nat.reduceLT, Nat.reduceLeDiff, Nat.reduceMul, ↓reduceIte, reduceCtorEq]
      refine slices_Clip_Task_ hJ ?_
      simp only [go_sem, Int.reduceToNat, List.take_nil, Nat.zero_mul, Nat.reduceEqDiff, Nat.reduceAdd, Nat.reduceLT, Nat.reduceLeDiff, Nat.reduceMul, ↓reduceIte, reduceCtorEq]
      exact Fin.plain ⟨_, rfl, .inr ⟨_, rfl, rfl⟩⟩
theorem impl_onCore_ {S : List Task} {A : List Int} (v : Int) (hs : S.length ≤ 1000) (hl : A.length ≤ S.length) {x y : AV} {σ : List AB} (h : Rd encTask σ x S) (h' : Rd encInt σ y A) {K : AV → List AB → Prop} (hk : ∀ x τ, OnP σ.length (onC S A v A.length) x τ → K x (σ ++ τ)) :
    CallWp Tryz.prog n_impl_onCore [x, y, .i .i64 v] σ K := by
  refine call_news _ (rds_cons h.r (rds1 h'.r)) (fun c => [.sl 0 0 S.length (c 0), .sl 1 0 A.length (c 1), .i .i64 v]) (OnP 2 (onC S A v A.length)) (fun c => impl_onCore0 S A v hs hl (c 0) (c 1)) (fun _ _ h => h.fr) (fun ν c h => ⟨h.1, h.2.1, .inl rfl, trivial⟩) (fun _ => rfl) ?_
  rintro x τ (⟨h1, rfl, rfl⟩ | ⟨c', rfl, rfl⟩)
  · exact hk _ _ (.inl ⟨h1, rfl, rfl⟩)
  · exact hk _ _ (.inr ⟨c', rfl, rfl⟩)
theorem spec_l7On0 (S : List Task) (A : List Int) (v : Int) (hs : S.length ≤ 1000) (hl : A.length ≤ S.length) (c c' : Nat) : CallWp Tryz.prog n_spec_l7On [.sl 0 0 S.length c, .sl 1 0 A.length c', .i .i64 v] [.ro (encTask.row S), .ro (encInt.row A)]
    (fun x σ' => ∃ τ, σ' = [.ro (encTask.row S), .ro (encInt.row A)] ++ τ ∧ OnQ 2 (onC S A v A.length) x τ) := by
  refine call_spec_l7On (by simp) ?_
  simp only [c_spec_l7On, go_sem, Int.reduceToNat, List.take_nil, Nat.zero_mul, Nat.reduceEqDiff, Nat.reduceAdd, Nat.reduceLT, Nat.reduceLeDiff, Nat.reduceMul, ↓reduceIte, reduceCtorEq]
  refine loop_intro (fun i : Nat × Nat => ⟨[(0, .sl 0 0 S.length c), (1, .sl 1 0 A.length c'), (2, .i .i64 v), (7, .sl 2 0 (onC S A v i.1).length i.2), (8, .i .i64 i.1)], [.ro (encTask.row S), .ro (encInt.row A), .rw ty_impl_Task (encTask.row (onC S A v i.1)) (i.2 * 3)]⟩) (fun i => i.1 ≤ A.length ∧ (onC S A v i.1).length ≤ i.2) (fun i => A.length - i.1) (0, 0) ⟨Nat.zero_le _, by simp [onC_zero]⟩ (by rw [show onC S A v ((0, 0) : Nat × Nat).1 = [] from onC_zero S A v]; exact Wk.pick [0, 1, 2]) ?_
  rintro ⟨k, cap⟩ ⟨hk, hJ⟩
  simp only at hk hJ
  simp only [l0_spec_l7On, not_true_eq_false, not_false_eq_true, decide_true, decide_false, Bool.not_true, Bool.not_false, false_implies, true_implies, and_true, true_and, Bool.false_eq_true, Bool.true_eq_false, implies_true, Bool.not_not, Classical.not_not, go_sem, Int.reduceToNat, List.take_nil, Nat.zero_mul, Nat.reduceEqDiff, Nat.reduceAdd, Nat.reduceLT, Nat.reduceLeDiff, Nat.reduceMul, ↓reduceIte, reduceCtorEq]
  refine ⟨fun hlt => ?_, fun hge => ?_⟩
  · have hkS : k < S.length := by omega
    have hsucc := onC_snoc (S := S) (A := A) v hkS hlt
    have gt : gT S k = S[k] := by simp [gT, List.getD_eq_getElem?_getD, hkS]
    have ga : gI A k = A[k] := by simp [gI, List.getD_eq_getElem?_getD, hlt]
    rw [gt, ga] at hsucc
    have hmono := (onC_sub S A v k).length_le
    generalize onC S A v k = M at *
    simp only [rdI hlt, winT hkS, encTf, lenT, lenI, not_true_eq_false, not_false_eq_true, decide_true, decide_false, Bool.not_true, Bool.not_false, false_implies, true_implies, and_true, true_and, Bool.false_eq_true, Bool.true_eq_false, implies_true, Bool.not_not, Classical.not_not, go_sem, Int.reduceToNat, List.take_nil, Nat.zero_mul, Nat.reduceEqDiff, Nat.reduceAdd, Nat.reduceLT, Nat.reduceLeDiff, Nat.reduceMul, ↓reduceIte, reduceCtorEq]
    refine ⟨hlt, hlt, fun he => ?_, fun he => ?_⟩
    · rw [if_pos he] at hsucc
      refine ⟨hkS, by omega, by omega, fun cap' hcap => ⟨by omega, (k + 1, cap'), ⟨⟨by simp only; omega, by simp only [hsucc]; simpa using hcap⟩, by simp only; omega⟩, ?_⟩⟩
      have e2 : (M ++ [S[k]]).length = M.length + 1 := by simp
      have e3 : List.take (M.length * 3) (encTask.row M) ++ [AV.i IntKind.i64 S[k].C, AV.i IntKind.i64 S[k].D, AV.i IntKind.i64 S[k].P] = encTask.row (M ++ [S[k]]) := by
        simp only [takeT, appT]
      simp only [hsucc, e2, e3]
      exact Wk.pick [0, 1, 4]
    · rw [if_neg he, List.append_nil] at hsucc
      refine ⟨by omega, (k + 1, cap), ⟨⟨by simp only; omega, by simp only [hsucc]; exact hJ⟩, by simp only; omega⟩, ?_⟩
      simp only [hsucc]
      exact Wk.pick [0, 1, 2]
  · have ek : k = A.length := by omega
    subst ek
    exact Fin.plain ⟨_, rfl, _, rfl, hJ, rfl⟩
theorem spec_l7On_ {S : List Task} {A : List Int} (v : Int) (hs : S.length ≤ 1000) (hl : A.length ≤ S.length) {x y : AV} {σ : List AB} (h : Rd encTask σ x S) (h' : Rd encInt σ y A) {K : AV → List AB → Prop} (hk : ∀ x τ, OnQ σ.length (onC S A v A.length) x τ → K x (σ ++ τ)) :
    CallWp Tryz.prog n_spec_l7On [x, y, .i .i64 v] σ K := by
  refine call_news _ (rds_cons h.r (rds1 h'.r)) (fun c => [.sl 0 0 S.length (c 0), .sl 1 0 A.length (c 1), .i .i64 v]) (OnQ 2 (onC S A v A.length)) (fun c => spec_l7On0 S A v hs hl (c 0) (c 1)) (fun _ _ h => h.fr) (fun ν c h => ⟨h.1, h.2.1, .inl rfl, trivial⟩) (fun _ => rfl) ?_
  rintro x τ ⟨c, rfl, h2, rfl⟩
  exact hk _ _ ⟨c, rfl, h2, rfl⟩
end Go.Proofs.YtfngcejaphhmmaaGreatDoor
