/- Contracts: critical sections, ceilings, of the program. -/
import Derived.Test.YtnlciginmeebhaaS4
import Derived.Test.YtnlciginmeebhaaM21
namespace Go.Proofs.Ytnlciginmeebhaa
open Go.Abs Go.Ds
set_option linter.unusedSimpArgs false
set_option linter.unusedVariables false
set_option maxRecDepth 20000
set_option maxHeartbeats 1000000

def encSec : Enc Sec := ⟨fun s => [.i .i64 s.St, .i .i64 s.Ln, .i .i64 s.Rs], 3, fun _ => rfl, fun _ => rfl⟩
theorem lenX (L : List Sec) : (encSec.row L).length = L.length * 3 := encSec.row_length L
theorem rdX0 {L : List Sec} {k : Nat} (h : k < L.length) : rd (encSec.row L) (k * 3) = .i .i64 (L[k]'h).St := encSec.rd L k 0 h (by decide)
theorem rdX1 {L : List Sec} {k : Nat} (h : k < L.length) : rd (encSec.row L) (k * 3 + 1) = .i .i64 (L[k]'h).Ln := encSec.rd L k 1 h (by decide)
theorem rdX2 {L : List Sec} {k : Nat} (h : k < L.length) : rd (encSec.row L) (k * 3 + 2) = .i .i64 (L[k]'h).Rs := encSec.rd L k 2 h (by decide)
theorem winX {L : List Sec} {k : Nat} (h : k < L.length) : win (encSec.row L) (k * 3) 3 = encSec.f (L[k]'h) := encSec.win L k h
theorem encXf (s : Sec) : encSec.f s = [.i .i64 s.St, .i .i64 s.Ln, .i .i64 s.Rs] := rfl
theorem appX (L : List Sec) (a b c : Int) : encSec.row L ++ [.i .i64 a, .i .i64 b, .i .i64 c] = encSec.row (L ++ [⟨a, b, c⟩]) := by rw [encSec.row_append, encSec.row_one]; rfl
theorem takeX (L : List Sec) : (encSec.row L).take (L.length * 3) = encSec.row L := List.take_of_length_le (by rw [lenX]; omega)
theorem gX_at {X : List Sec} {k : Nat} (h : k < X.length) : gX X k = X[k] := by simp [gX, List.getD_eq_getElem?_getD, h]

theorem aeqX (a b c : Int) : Abs.aeq [.i .i64 a, .i .i64 b, .i .i64 c] [.i .i64 0, .i .i64 0, .i .i64 0] = decide (a = 0 ∧ b = 0 ∧ c = 0) := by
  simp [Abs.aeq, Bool.decide_and]
theorem aeqOkX (a b c : Int) : aeqOk [true, true, true] [.i .i64 a, .i .i64 b, .i .i64 c] [.i .i64 0, .i .i64 0, .i .i64 0] = True := by
  simp [aeqOk]

theorem impl_SectionsValid0 (S : List Task) (X : List Sec) (hs : S.length ≤ 1048576) (hx : X.length ≤ 1048576) (c c' : Nat) : CallWp Try.prog n_impl_SectionsValid [.sl 0 0 S.length c, .sl 1 0 X.length c'] [.ro (encTask.row S), .ro (encSec.row X)]
    (fun x σ => x = .b (decide (secsOk S X)) ∧ σ = [.ro (encTask.row S), .ro (encSec.row X)]) := by
  refine call_impl_SectionsValid (by simp) ?_
  simp only [c_impl_SectionsValid, go_sem, Int.reduceToNat, List.take_nil, Nat.zero_mul, Nat.reduceEqDiff, Nat.reduceAdd, Nat.reduceLT, Nat.reduceLeDiff, Nat.reduceMul, ↓reduceIte, reduceCtorEq]
  refine impl_SetValid_ (L := S) (by omega) (Rd.own rfl) ?_
  simp only [not_true_eq_false, not_false_eq_true, decide_true, decide_false, Bool.not_true, Bool.not_false, false_implies, true_implies, and_true, true_and, Bool.false_eq_true, Bool.true_eq_false, implies_true, Bool.not_not, Classical.not_not, go_sem, Int.reduceToNat, List.take_nil, Nat.zero_mul, Nat.reduceEqDiff, Nat.reduceAdd, Nat.reduceLT, Nat.reduceLeDiff, Nat.reduceMul, ↓reduceIte, reduceCtorEq]
  have no : ¬ secsOk S X → Fin 2 [.ro (encTask.row S), .ro (encSec.row X)] (.b false) (fun x σ => x = .b (decide (secsOk S X)) ∧ σ = [.ro (encTask.row S), .ro (encSec.row X)]) := fun h => Fin.plain ⟨by rw [decide_eq_false h], rfl⟩
  refine ⟨fun hS => ⟨fun hne => no fun h => by have := h.2.1; omega, fun he => ?_⟩, fun hS => no fun h => hS h.1⟩
  have he : X.length = S.length := by omega
  have h5 := hS.1
  refine loop_count X.length (fun k => ⟨[(0, .sl 0 0 S.length c), (17, .sl 1 0 X.length c'), (18, .i .i64 X.length), (19, .i .i64 k)], [.ro (encTask.row S), .ro (encSec.row X)]⟩) (fun k => ∀ j : Nat, j < k → secOk (gT S j) (gX X j)) (fun j hj => absurd hj (Nat.not_lt_zero j)) (Wk.pick [0, 1]) fun k hk hJ => ?_
  simp only [l0_impl_SectionsValid, not_true_eq_false, not_false_eq_true, decide_true, decide_false, Bool.not_true, Bool.not_false, false_implies, true_implies, and_true, true_and, Bool.false_eq_true, Bool.true_eq_false, implies_true, Bool.not_not, Classical.not_not, go_sem, Int.reduceToNat, List.take_nil, Nat.zero_mul, Nat.reduceEqDiff, Nat.reduceAdd, Nat.reduceLT, Nat.reduceLeDiff, Nat.reduceMul, ↓reduceIte, reduceCtorEq]
  refine ⟨fun hlt => ?_, fun hge => ?_⟩
  · have hkS : k < S.length := by omega
    have gt : gT S k = S[k] := gT_nat hkS
    have gx := gX_at hlt
    have hok := hS.2 _ (List.getElem_mem hkS)
    unfold Task.ok at hok
    have key : secOk (gT S k) (gX X k) ↔ ((X[k].Ln = 0 → X[k].St = 0 ∧ X[k].Rs = 0) ∧ (0 ≤ X[k].Ln ∧ X[k].Ln ≤ S[k].C) ∧ (0 ≤ X[k].St ∧ X[k].St ≤ S[k].C - X[k].Ln) ∧ 0 ≤ X[k].Rs ∧ X[k].Rs ≤ 2) := by rw [gt, gx]; rfl
    have hbad : ¬ ((X[k].Ln = 0 → X[k].St = 0 ∧ X[k].Rs = 0) ∧ (0 ≤ X[k].Ln ∧ X[k].Ln ≤ S[k].C) ∧ (0 ≤ X[k].St ∧ X[k].St ≤ S[k].C - X[k].Ln) ∧ 0 ≤ X[k].Rs ∧ X[k].Rs ≤ 2) → ¬ secsOk S X := fun h1 h2 => h1 (key.1 (h2.2.2 k hlt))
    have hgood := fun h1 => key.2 h1
    have hstep : ((X[k].Ln = 0 → X[k].St = 0 ∧ X[k].Rs = 0) ∧ (0 ≤ X[k].Ln ∧ X[k].Ln ≤ S[k].C) ∧ (0 ≤ X[k].St ∧ X[k].St ≤ S[k].C - X[k].Ln) ∧ 0 ≤ X[k].Rs ∧ X[k].Rs ≤ 2) → ∀ j : Nat, j < k + 1 → secOk (gT S j) (gX X j) := fun h1 j hj => by
      rcases Nat.lt_or_eq_of_le (Nat.le_of_lt_succ hj) with h2 | rfl
      · exact hJ j h2
      · exact hgood h1
    clear key hgood hJ gt gx
    simp only [winX hlt, encXf, lenX, lenT, rdT0 hkS, aeqX, aeqOkX, not_true_eq_false, not_false_eq_true, decide_true, decide_false, Bool.not_true, Bool.not_false, false_implies, true_implies, and_true, true_and, Bool.false_eq_true, Bool.true_eq_false, implies_true, Bool.not_not, Classical.not_not, go_sem, Int.reduceToNat, List.take_nil, Nat.zero_mul, Nat.reduceEqDiff, Nat.reduceAdd, Nat.reduceLT, Nat.reduceLeDiff, Nat.reduceMul, ↓reduceIte, reduceCtorEq]
    have no' : ¬ secsOk S X → Fin 2 [.ro (encTask.row S), .ro (encSec.row X), .rw ty_impl_Section [.i .i64 X[k].St, .i .i64 X[k].Ln, .i .i64 X[k].Rs] 3] (.b false) (fun x σ => x = .b (decide (secsOk S X)) ∧ σ = [.ro (encTask.row S), .ro (encSec.row X)]) := fun h => Fin.pick [0, 1] (.b false) _ ⟨by rw [decide_eq_false h], rfl⟩
    refine ⟨hlt, by omega, fun h0 => ⟨fun hz => ?_, fun hz => no' (hbad fun hh => by omega)⟩, fun h0 => ?_⟩
    · skip
      refine ⟨hkS, by omega, onCall.by (impl_in_ _ _ _ ⟨rfl, rfl⟩) ?_⟩
      simp only [winX hlt, encXf, lenX, lenT, rdT0 hkS, aeqX, aeqOkX, not_true_eq_false, not_false_eq_true, decide_true, decide_false, Bool.not_true, Bool.not_false, false_implies, true_implies, and_true, true_and, Bool.false_eq_true, Bool.true_eq_false, implies_true, Bool.not_not, Classical.not_not, go_sem, Int.reduceToNat, List.take_nil, Nat.zero_mul, Nat.reduceEqDiff, Nat.reduceAdd, Nat.reduceLT, Nat.reduceLeDiff, Nat.reduceMul, ↓reduceIte, reduceCtorEq]
      refine ⟨fun h1 => ⟨hkS, by omega, by omega, onCall.by (impl_in_ _ _ _ ⟨rfl, rfl⟩) ?_⟩, fun h1 => no' (hbad fun hh => by omega)⟩
      simp only [winX hlt, encXf, lenX, lenT, rdT0 hkS, aeqX, aeqOkX, not_true_eq_false, not_false_eq_true, decide_true, decide_false, Bool.not_true, Bool.not_false, false_implies, true_implies, and_true, true_and, Bool.false_eq_true, Bool.true_eq_false, implies_true, Bool.not_not, Classical.not_not, go_sem, Int.reduceToNat, List.take_nil, Nat.zero_mul, Nat.reduceEqDiff, Nat.reduceAdd, Nat.reduceLT, Nat.reduceLeDiff, Nat.reduceMul, ↓reduceIte, reduceCtorEq]
      refine ⟨fun h2 => onCall.by (impl_in_ _ _ _ ⟨rfl, rfl⟩) ?_, fun h2 => no' (hbad fun hh => by omega)⟩
      simp only [winX hlt, encXf, lenX, lenT, rdT0 hkS, aeqX, aeqOkX, not_true_eq_false, not_false_eq_true, decide_true, decide_false, Bool.not_true, Bool.not_false, false_implies, true_implies, and_true, true_and, Bool.false_eq_true, Bool.true_eq_false, implies_true, Bool.not_not, Classical.not_not, go_sem, Int.reduceToNat, List.take_nil, Nat.zero_mul, Nat.reduceEqDiff, Nat.reduceAdd, Nat.reduceLT, Nat.reduceLeDiff, Nat.reduceMul, ↓reduceIte, reduceCtorEq]
      first
        | exact ⟨fun h3 => no' (hbad fun hh => by omega), fun h3 => ⟨by omega, ⟨hlt, hstep (by omega)⟩, Wk.pick [0, 1]⟩⟩
        | exact ⟨fun h3 => ⟨by omega, ⟨hlt, hstep (by omega)⟩, Wk.pick [0, 1]⟩, fun h3 => no' (hbad fun hh => by omega)⟩
    · skip
      refine ⟨hkS, by omega, onCall.by (impl_in_ _ _ _ ⟨rfl, rfl⟩) ?_⟩
      simp only [winX hlt, encXf, lenX, lenT, rdT0 hkS, aeqX, aeqOkX, not_true_eq_false, not_false_eq_true, decide_true, decide_false, Bool.not_true, Bool.not_false, false_implies, true_implies, and_true, true_and, Bool.false_eq_true, Bool.true_eq_false, implies_true, Bool.not_not, Classical.not_not, go_sem, Int.reduceToNat, List.take_nil, Nat.zero_mul, Nat.reduceEqDiff, Nat.reduceAdd, Nat.reduceLT, Nat.reduceLeDiff, Nat.reduceMul, ↓reduceIte, reduceCtorEq]
      refine ⟨fun h1 => ⟨hkS, by omega, by omega, onCall.by (impl_in_ _ _ _ ⟨rfl, rfl⟩) ?_⟩, fun h1 => no' (hbad fun hh => by omega)⟩
      simp only [winX hlt, encXf, lenX, lenT, rdT0 hkS, aeqX, aeqOkX, not_true_eq_false, not_false_eq_true, decide_true, decide_false, Bool.not_true, Bool.not_false, false_implies, true_implies, and_true, true_and, Bool.false_eq_true, Bool.true_eq_false, implies_true, Bool.not_not, Classical.not_not, go_sem, Int.reduceToNat, List.take_nil, Nat.zero_mul, Nat.reduceEqDiff, Nat.reduceAdd, Nat.reduceLT, Nat.reduceLeDiff, Nat.reduceMul, ↓reduceIte, reduceCtorEq]
      refine ⟨fun h2 => onCall.by (impl_in_ _ _ _ ⟨rfl, rfl⟩) ?_, fun h2 => no' (hbad fun hh => by omega)⟩
      simp only [winX hlt, encXf, lenX, lenT, rdT0 hkS, aeqX, aeqOkX, not_true_eq_false, not_false_eq_true, decide_true, decide_false, Bool.not_true, Bool.not_false, false_implies, true_implies, and_true, true_and, Bool.false_eq_true, Bool.true_eq_false, implies_true, Bool.not_not, Classical.not_not, go_sem, Int.reduceToNat, List.take_nil, Nat.zero_mul, Nat.reduceEqDiff, Nat.reduceAdd, Nat.reduceLT, Nat.reduceLeDiff, Nat.reduceMul, ↓reduceIte, reduceCtorEq]
      first
        | exact ⟨fun h3 => no' (hbad fun hh => by omega), fun h3 => ⟨by omega, ⟨hlt, hstep (by omega)⟩, Wk.pick [0, 1]⟩⟩
        | exact ⟨fun h3 => ⟨by omega, ⟨hlt, hstep (by omega)⟩, Wk.pick [0, 1]⟩, fun h3 => no' (hbad fun hh => by omega)⟩
  · have ek : k = X.length := by omega
    subst ek
    exact Fin.plain ⟨by rw [decide_eq_true (show secsOk S X from ⟨hS, he, hJ⟩)], rfl⟩
theorem impl_SectionsValid_ {S : List Task} {X : List Sec} (hs : S.length ≤ 1048576) (hx : X.length ≤ 1048576) {v u : AV} {σ : List AB} (h : Rd encTask σ v S) (h' : Rd encSec σ u X) {K : AV → List AB → Prop} (hk : K (.b (decide (secsOk S X))) σ) : CallWp Try.prog n_impl_SectionsValid [v, u] σ K :=
  call_rds _ (rds_cons h.r (rds1 h'.r)) (fun c => [.sl 0 0 S.length (c 0), .sl 1 0 X.length (c 1)]) (fun c => impl_SectionsValid0 S X hs hx (c 0) (c 1)) (fun ν c h => ⟨h.1, h.2.1, trivial⟩) (fun _ => rfl) rfl hk

theorem impl_ceilings0 (S : List Task) (X : List Sec) (hX : secsOk S X) (c c' : Nat) : CallWp Try.prog n_impl_ceilings [.sl 0 0 S.length c, .sl 1 0 X.length c'] [.ro (encTask.row S), .ro (encSec.row X)]
    (fun x σ => ∃ cap, x = .sl 2 0 3 cap ∧ σ = [.ro (encTask.row S), .ro (encSec.row X)] ++ [.rw ty_int (encInt.row [ceilR S X 0, ceilR S X 1, ceilR S X 2]) (cap * 1)]) := by
  have h5 := hX.1.1
  have hl := hX.2.1
  refine call_impl_ceilings (by simp) ?_
  simp only [c_impl_ceilings, not_true_eq_false, not_false_eq_true, decide_true, decide_false, Bool.not_true, Bool.not_false, false_implies, true_implies, and_true, true_and, Bool.false_eq_true, Bool.true_eq_false, implies_true, Bool.not_not, Classical.not_not, go_sem, Int.reduceToNat, List.take_nil, Nat.zero_mul, Nat.reduceEqDiff, Nat.reduceAdd, Nat.reduceLT, Nat.reduceLeDiff, Nat.reduceMul, ↓reduceIte, reduceCtorEq]
  refine ⟨by omega, ?_⟩
  refine loop_count 3 (fun k => ⟨[(0, .sl 0 0 S.length c), (1, .sl 1 0 X.length c'), (5, .sl 2 0 3 3), (11, .i .i64 (3 : Nat)), (12, .i .i64 k)], [.ro (encTask.row S), .ro (encSec.row X), .rw ty_int (encInt.row (List.replicate k 13 ++ List.replicate (3 - k) 0)) 3]⟩) (fun _ => True) trivial (Wk.pick [0, 1, 2]) fun k hk _ => ?_
  simp only [l1_impl_ceilings, not_true_eq_false, not_false_eq_true, decide_true, decide_false, Bool.not_true, Bool.not_false, false_implies, true_implies, and_true, true_and, Bool.false_eq_true, Bool.true_eq_false, implies_true, Bool.not_not, Classical.not_not, go_sem, Int.reduceToNat, List.take_nil, Nat.zero_mul, Nat.reduceEqDiff, Nat.reduceAdd, Nat.reduceLT, Nat.reduceLeDiff, Nat.reduceMul, ↓reduceIte, reduceCtorEq]
  refine ⟨fun hlt => ?_, fun hge => ?_⟩
  · have hk3 : k < (List.replicate k (13 : Int) ++ List.replicate (3 - k) 0).length := by simp; omega
    have hk4 : (List.replicate k (13 : Int) ++ List.replicate (3 - k) 0).length = 3 := by simp; omega
    have e : (List.replicate k (13 : Int) ++ List.replicate (3 - k) 0).set k 13 = List.replicate (k + 1) 13 ++ List.replicate (3 - (k + 1)) 0 := by
      rcases (show k = 0 ∨ k = 1 ∨ k = 2 by omega) with rfl | rfl | rfl <;> rfl
    simp only [splI hk3, lenI, hk4, e, not_true_eq_false, not_false_eq_true, decide_true, decide_false, Bool.not_true, Bool.not_false, false_implies, true_implies, and_true, true_and, Bool.false_eq_true, Bool.true_eq_false, implies_true, Bool.not_not, Classical.not_not, go_sem, Int.reduceToNat, List.take_nil, Nat.zero_mul, Nat.reduceEqDiff, Nat.reduceAdd, Nat.reduceLT, Nat.reduceLeDiff, Nat.reduceMul, ↓reduceIte, reduceCtorEq]
    exact ⟨by omega, by omega, by omega, by omega, Wk.pick [0, 1, 2]⟩
  · have ek : k = 3 := by omega
    subst ek
    have e : (List.replicate 3 (13 : Int) ++ List.replicate (3 - 3) 0) = [ceilN S X 0 0, ceilN S X 1 0, ceilN S X 2 0] := rfl
    rw [e]
    refine loop_count X.length (fun k => ⟨[(0, .sl 0 0 S.length c), (5, .sl 2 0 3 3), (19, .sl 1 0 X.length c'), (20, .i .i64 X.length), (21, .i .i64 k)], [.ro (encTask.row S), .ro (encSec.row X), .rw ty_int (encInt.row [ceilN S X 0 k, ceilN S X 1 k, ceilN S X 2 k]) 3]⟩) (fun _ => True) trivial (Wk.pick [0, 1, 2]) fun k hk _ => ?_
    simp only [l0_impl_ceilings, not_true_eq_false, not_false_eq_true, decide_true, decide_false, Bool.not_true, Bool.not_false, false_implies, true_implies, and_true, true_and, Bool.false_eq_true, Bool.true_eq_false, implies_true, Bool.not_not, Classical.not_not, go_sem, Int.reduceToNat, List.take_nil, Nat.zero_mul, Nat.reduceEqDiff, Nat.reduceAdd, Nat.reduceLT, Nat.reduceLeDiff, Nat.reduceMul, ↓reduceIte, reduceCtorEq]
    refine ⟨fun hlt => ?_, fun hge => ?_⟩
    · have hkS : k < S.length := by omega
      have gt : gT S k = S[k] := gT_nat hkS
      have gx := gX_at hlt
      have hok := hX.2.2 k hlt
      rw [gt, gx] at hok
      unfold secOk at hok
      have hsucc : ∀ r, ceilN S X r (k + 1) = if 0 < X[k].Ln ∧ X[k].Rs = r then (if S[k].D < ceilN S X r k then S[k].D else ceilN S X r k) else ceilN S X r k := fun r => by rw [← gx, ← gt]; rfl
      simp only [winX hlt, encXf, lenX, not_true_eq_false, not_false_eq_true, decide_true, decide_false, Bool.not_true, Bool.not_false, false_implies, true_implies, and_true, true_and, Bool.false_eq_true, Bool.true_eq_false, implies_true, Bool.not_not, Classical.not_not, go_sem, Int.reduceToNat, List.take_nil, Nat.zero_mul, Nat.reduceEqDiff, Nat.reduceAdd, Nat.reduceLT, Nat.reduceLeDiff, Nat.reduceMul, ↓reduceIte, reduceCtorEq]
      refine ⟨hlt, by omega, fun hln => ?_, fun hln => ?_⟩
      · have hr : X[k].Rs = 0 ∨ X[k].Rs = 1 ∨ X[k].Rs = 2 := by omega
        have hrow : X[k].Rs.toNat < [ceilN S X 0 k, ceilN S X 1 k, ceilN S X 2 k].length := by simp; omega
        have e : [ceilN S X 0 k, ceilN S X 1 k, ceilN S X 2 k].set X[k].Rs.toNat (if S[k].D < [ceilN S X 0 k, ceilN S X 1 k, ceilN S X 2 k][X[k].Rs.toNat] then S[k].D else [ceilN S X 0 k, ceilN S X 1 k, ceilN S X 2 k][X[k].Rs.toNat]) = [ceilN S X 0 (k + 1), ceilN S X 1 (k + 1), ceilN S X 2 (k + 1)] := by
          rw [hsucc 0, hsucc 1, hsucc 2]
          generalize ceilN S X 0 k = a0
          generalize ceilN S X 1 k = a1
          generalize ceilN S X 2 k = a2
          have hlen : 0 < X[k].Ln := by omega
          rcases hr with h | h | h
          · simp [h, hlen]
          · simp [h, hlen]
          · simp [h, hlen]
        simp only [rdI hrow, rdT1 hkS, splI hrow, lenI, lenT, e, not_true_eq_false, not_false_eq_true, decide_true, decide_false, Bool.not_true, Bool.not_false, false_implies, true_implies, and_true, true_and, Bool.false_eq_true, Bool.true_eq_false, implies_true, Bool.not_not, Classical.not_not, go_sem, Int.reduceToNat, List.take_nil, Nat.zero_mul, Nat.reduceEqDiff, Nat.reduceAdd, Nat.reduceLT, Nat.reduceLeDiff, Nat.reduceMul, ↓reduceIte, reduceCtorEq]
        exact ⟨by omega, by simp; omega, hkS, by omega, by omega, by simp; omega, by omega, hlt, Wk.pick [0, 1, 2]⟩
      · have e : ∀ r, ceilN S X r (k + 1) = ceilN S X r k := fun r => by rw [hsucc, if_neg fun h => hln h.1]
        simp only [e]
        exact ⟨by omega, hlt, Wk.pick [0, 1, 2]⟩
    · have ek : k = X.length := by omega
      rw [ek, hl]
      exact Fin.plain ⟨3, rfl, rfl⟩
theorem impl_ceilings_ {S : List Task} {X : List Sec} (hX : secsOk S X) {v u : AV} {σ : List AB} (h : Rd encTask σ v S) (h' : Rd encSec σ u X) {K : AV → List AB → Prop} (hk : ∀ cap, K (.sl σ.length 0 3 cap) (σ ++ [.rw ty_int (encInt.row [ceilR S X 0, ceilR S X 1, ceilR S X 2]) (cap * 1)])) : CallWp Try.prog n_impl_ceilings [v, u] σ K :=
  call_new _ (rds_cons h.r (rds1 h'.r)) (fun c => [.sl 0 0 S.length (c 0), .sl 1 0 X.length (c 1)]) (fun c => impl_ceilings0 S X hX (c 0) (c 1)) (fun ν c h => ⟨h.1, h.2.1, trivial⟩) (fun _ => rfl) (encInt.row_flat _) hk
end Go.Proofs.Ytnlciginmeebhaa
