/- Contracts: critical sections, ceilings, of the reference. -/
import Derived.Test.YtnlciginmeebhaaS34
import Derived.Test.YtnlciginmeebhaaS8
namespace Go.Proofs.Ytnlciginmeebhaa
open Go.Abs Go.Ds
set_option linter.unusedSimpArgs false
set_option linter.unusedVariables false
set_option maxRecDepth 20000
set_option maxHeartbeats 1000000

theorem spec_SectionsValid0 (S : List Task) (X : List Sec) (hs : S.length ≤ 1048576) (hx : X.length ≤ 1048576) (c c' : Nat) : CallWp Try.prog n_spec_SectionsValid [.sl 0 0 S.length c, .sl 1 0 X.length c'] [.ro (encTask.row S), .ro (encSec.row X)]
    (fun x σ => x = .b (decide (secsOk S X)) ∧ σ = [.ro (encTask.row S), .ro (encSec.row X)]) := by
  refine call_spec_SectionsValid (by simp) ?_
  simp only [c_spec_SectionsValid, go_sem, Int.reduceToNat, List.take_nil, Nat.zero_mul, Nat.reduceEqDiff, Nat.reduceAdd, Nat.reduceLT, Nat.reduceLeDiff, Nat.reduceMul, ↓reduceIte, reduceCtorEq]
  refine spec_SetValid_ (L := S) (by omega) (Rd.own rfl) ?_
  simp only [not_true_eq_false, not_false_eq_true, decide_true, decide_false, Bool.not_true, Bool.not_false, false_implies, true_implies, and_true, true_and, Bool.false_eq_true, Bool.true_eq_false, implies_true, Bool.not_not, Classical.not_not, go_sem, Int.reduceToNat, List.take_nil, Nat.zero_mul, Nat.reduceEqDiff, Nat.reduceAdd, Nat.reduceLT, Nat.reduceLeDiff, Nat.reduceMul, ↓reduceIte, reduceCtorEq]
  have no : ¬ secsOk S X → Fin 2 [.ro (encTask.row S), .ro (encSec.row X)] (.b false) (fun x σ => x = .b (decide (secsOk S X)) ∧ σ = [.ro (encTask.row S), .ro (encSec.row X)]) := fun h => Fin.plain ⟨by rw [decide_eq_false h], rfl⟩
  refine ⟨fun hS => ⟨fun hne => no fun h => by have := h.2.1; omega, fun he => ?_⟩, fun hS => no fun h => hS h.1⟩
  have he : X.length = S.length := by omega
  have h5 := hS.1
  refine loop_count X.length (fun k => ⟨[(0, .sl 0 0 S.length c), (1, .sl 1 0 X.length c'), (5, .i .i64 k)], [.ro (encTask.row S), .ro (encSec.row X)]⟩) (fun k => ∀ j : Nat, j < k → secOk (gT S j) (gX X j)) (fun j hj => absurd hj (Nat.not_lt_zero j)) (Wk.pick [0, 1]) fun k hk hJ => ?_
  simp only [l0_spec_SectionsValid, not_true_eq_false, not_false_eq_true, decide_true, decide_false, Bool.not_true, Bool.not_false, false_implies, true_implies, and_true, true_and, Bool.false_eq_true, Bool.true_eq_false, implies_true, Bool.not_not, Classical.not_not, go_sem, Int.reduceToNat, List.take_nil, Nat.zero_mul, Nat.reduceEqDiff, Nat.reduceAdd, Nat.reduceLT, Nat.reduceLeDiff, Nat.reduceMul, ↓reduceIte, reduceCtorEq]
  refine ⟨fun hlt => ?_, fun hge => ?_⟩
  · have hkS : k < S.length := by omega
    have gt : gT S k = S[k] := gT_nat hkS
    have gx := gX_at hlt
    have hok := hS.2 _ (List.getElem_mem hkS)
    unfold Task.ok at hok
    have key : secOk (gT S k) (gX X k) ↔ ((X[k].Ln = 0 → X[k].St = 0 ∧ X[k].Rs = 0) ∧ (0 ≤ X[k].Ln ∧ X[k].Ln ≤ S[k].C) ∧ (0 ≤ X[k].St ∧ X[k].St ≤ S[k].C - X[k].Ln) ∧ 0 ≤ X[k].Rs ∧ X[k].Rs ≤ 2) := by rw [gt, gx]; rfl
    have hbad : ¬ ((X[k].Ln = 0 → X[k].St = 0 ∧ X[k].Rs = 0) ∧ (0 ≤ X[k].Ln ∧ X[k].Ln ≤ S[k].C) ∧ (0 ≤ X[k].St ∧ X[k].St ≤ S[k].C - X[k].Ln) ∧ 0 ≤ X[k].Rs ∧ X[k].Rs ≤ 2) → ¬ secsOk S X := fun h1 h2 => h1 (key.1 (h2.2.2 k hlt))
    have hgood := fun h1 => key.2 h1
    have hstep : ((X[k].Ln = 0 → X[k].St = 0 ∧ X[k].Rs = 0) ∧ (0 ≤ X[k].Ln ∧ X[k].Ln ≤ S[k].C) ∧ (0 ≤ X[k].St ∧ X[k].St ≤ S[k].C - X[k].Ln) ∧ 0 ≤ X[k].Rs ∧ X[k].Rs ≤ 2) → ∀ j : Nat, j < k + 1 → secOk (gT S j) (gX X j) := fun h1 j hj => by
      rcases Nat.lt_or_eq_of_le (Nat.le_of_lt_succ hj) with h2 | rfl
      · exact hJ j h2
      · exact hgood h1
    clear key hgood hJ gt gx
    simp only [winX hlt, encXf, lenX, lenT, rdT0 hkS, aeqX, aeqOkX, not_true_eq_false, not_false_eq_true, decide_true, decide_false, Bool.not_true, Bool.not_false, false_implies, true_implies, and_true, true_and, Bool.false_eq_true, Bool.true_eq_false, implies_true, Bool.not_not, Classical.not_not, go_sem, Int.reduceToNat, List.take_nil, Nat.zero_mul, Nat.reduceEqDiff, Nat.reduceAdd, Nat.reduceLT, Nat.reduceLeDiff, Nat.reduceMul, ↓reduceIte, reduceCtorEq]
    have no' : ¬ secsOk S X → Fin 2 [.ro (encTask.row S), .ro (encSec.row X), .rw ty_impl_Section [.i .i64 X[k].St, .i .i64 X[k].Ln, .i .i64 X[k].Rs] 3] (.b false) (fun x σ => x = .b (decide (secsOk S X)) ∧ σ = [.ro (encTask.row S), .ro (encSec.row X)]) := fun h => Fin.pick [0, 1] (.b false) _ ⟨by rw [decide_eq_false h], rfl⟩
    refine ⟨hlt, by omega, fun h0 => ⟨fun hz => ⟨fun hz2 => ?_, fun hz2 => no' (hbad fun hh => by omega)⟩, fun hz => no' (hbad fun hh => by omega)⟩, fun h0 => ?_⟩
    · skip
      refine ⟨hkS, by omega, onCall.by (spec_l1In_ _ _ _ ⟨rfl, rfl⟩) ?_⟩
      simp only [winX hlt, encXf, lenX, lenT, rdT0 hkS, aeqX, aeqOkX, not_true_eq_false, not_false_eq_true, decide_true, decide_false, Bool.not_true, Bool.not_false, false_implies, true_implies, and_true, true_and, Bool.false_eq_true, Bool.true_eq_false, implies_true, Bool.not_not, Classical.not_not, go_sem, Int.reduceToNat, List.take_nil, Nat.zero_mul, Nat.reduceEqDiff, Nat.reduceAdd, Nat.reduceLT, Nat.reduceLeDiff, Nat.reduceMul, ↓reduceIte, reduceCtorEq]
      refine ⟨fun h1 => ⟨hkS, by omega, by omega, onCall.by (spec_l1In_ _ _ _ ⟨rfl, rfl⟩) ?_⟩, fun h1 => no' (hbad fun hh => by omega)⟩
      simp only [winX hlt, encXf, lenX, lenT, rdT0 hkS, aeqX, aeqOkX, not_true_eq_false, not_false_eq_true, decide_true, decide_false, Bool.not_true, Bool.not_false, false_implies, true_implies, and_true, true_and, Bool.false_eq_true, Bool.true_eq_false, implies_true, Bool.not_not, Classical.not_not, go_sem, Int.reduceToNat, List.take_nil, Nat.zero_mul, Nat.reduceEqDiff, Nat.reduceAdd, Nat.reduceLT, Nat.reduceLeDiff, Nat.reduceMul, ↓reduceIte, reduceCtorEq]
      refine ⟨fun h2 => onCall.by (spec_l1In_ _ _ _ ⟨rfl, rfl⟩) ?_, fun h2 => no' (hbad fun hh => by omega)⟩
      simp only [winX hlt, encXf, lenX, lenT, rdT0 hkS, aeqX, aeqOkX, not_true_eq_false, not_false_eq_true, decide_true, decide_false, Bool.not_true, Bool.not_false, false_implies, true_implies, and_true, true_and, Bool.false_eq_true, Bool.true_eq_false, implies_true, Bool.not_not, Classical.not_not, go_sem, Int.reduceToNat, List.take_nil, Nat.zero_mul, Nat.reduceEqDiff, Nat.reduceAdd, Nat.reduceLT, Nat.reduceLeDiff, Nat.reduceMul, ↓reduceIte, reduceCtorEq]
      first
        | exact ⟨fun h3 => no' (hbad fun hh => by omega), fun h3 => ⟨by omega, ⟨hlt, hstep (by omega)⟩, Wk.pick [0, 1]⟩⟩
        | exact ⟨fun h3 => ⟨by omega, ⟨hlt, hstep (by omega)⟩, Wk.pick [0, 1]⟩, fun h3 => no' (hbad fun hh => by omega)⟩
    · skip
      refine ⟨hkS, by omega, onCall.by (spec_l1In_ _ _ _ ⟨rfl, rfl⟩) ?_⟩
      simp only [winX hlt, encXf, lenX, lenT, rdT0 hkS, aeqX, aeqOkX, not_true_eq_false, not_false_eq_true, decide_true, decide_false, Bool.not_true, Bool.not_false, false_implies, true_implies, and_true, true_and, Bool.false_eq_true, Bool.true_eq_false, implies_true, Bool.not_not, Classical.not_not, go_sem, Int.reduceToNat, List.take_nil, Nat.zero_mul, Nat.reduceEqDiff, Nat.reduceAdd, Nat.reduceLT, Nat.reduceLeDiff, Nat.reduceMul, ↓reduceIte, reduceCtorEq]
      refine ⟨fun h1 => ⟨hkS, by omega, by omega, onCall.by (spec_l1In_ _ _ _ ⟨rfl, rfl⟩) ?_⟩, fun h1 => no' (hbad fun hh => by omega)⟩
      simp only [winX hlt, encXf, lenX, lenT, rdT0 hkS, aeqX, aeqOkX, not_true_eq_false, not_false_eq_true, decide_true, decide_false, Bool.not_true, Bool.not_false, false_implies, true_implies, and_true, true_and, Bool.false_eq_true, Bool.true_eq_false, implies_true, Bool.not_not, Classical.not_not, go_sem, Int.reduceToNat, List.take_nil, Nat.zero_mul, Nat.reduceEqDiff, Nat.reduceAdd, Nat.reduceLT, Nat.reduceLeDiff, Nat.reduceMul, ↓reduceIte, reduceCtorEq]
      refine ⟨fun h2 => onCall.by (spec_l1In_ _ _ _ ⟨rfl, rfl⟩) ?_, fun h2 => no' (hbad fun hh => by omega)⟩
      simp only [winX hlt, encXf, lenX, lenT, rdT0 hkS, aeqX, aeqOkX, not_true_eq_false, not_false_eq_true, decide_true, decide_false, Bool.not_true, Bool.not_false, false_implies, true_implies, and_true, true_and, Bool.false_eq_true, Bool.true_eq_false, implies_true, Bool.not_not, Classical.not_not, go_sem, Int.reduceToNat, List.take_nil, Nat.zero_mul, Nat.reduceEqDiff, Nat.reduceAdd, Nat.reduceLT, Nat.reduceLeDiff, Nat.reduceMul, ↓reduceIte, reduceCtorEq]
      first
        | exact ⟨fun h3 => no' (hbad fun hh => by omega), fun h3 => ⟨by omega, ⟨hlt, hstep (by omega)⟩, Wk.pick [0, 1]⟩⟩
        | exact ⟨fun h3 => ⟨by omega, ⟨hlt, hstep (by omega)⟩, Wk.pick [0, 1]⟩, fun h3 => no' (hbad fun hh => by omega)⟩
  · have ek : k = X.length := by omega
    subst ek
    exact Fin.plain ⟨by rw [decide_eq_true (show secsOk S X from ⟨hS, he, hJ⟩)], rfl⟩
theorem spec_SectionsValid_ {S : List Task} {X : List Sec} (hs : S.length ≤ 1048576) (hx : X.length ≤ 1048576) {v u : AV} {σ : List AB} (h : Rd encTask σ v S) (h' : Rd encSec σ u X) {K : AV → List AB → Prop} (hk : K (.b (decide (secsOk S X))) σ) : CallWp Try.prog n_spec_SectionsValid [v, u] σ K :=
  call_rds _ (rds_cons h.r (rds1 h'.r)) (fun c => [.sl 0 0 S.length (c 0), .sl 1 0 X.length (c 1)]) (fun c => spec_SectionsValid0 S X hs hx (c 0) (c 1)) (fun ν c h => ⟨h.1, h.2.1, trivial⟩) (fun _ => rfl) rfl hk


theorem spec_l6Ceiling0 (S : List Task) (X : List Sec) (hl : X.length = S.length) (hs : S.length ≤ 1000) (r : Int) (c c' : Nat) : CallWp Try.prog n_spec_l6Ceiling [.sl 0 0 S.length c, .sl 1 0 X.length c', .i .i64 r] [.ro (encTask.row S), .ro (encSec.row X)]
    (fun x σ => x = .i .i64 (ceilR S X r) ∧ σ = [.ro (encTask.row S), .ro (encSec.row X)]) := by
  refine call_spec_l6Ceiling (by simp) ?_
  simp only [c_spec_l6Ceiling, not_true_eq_false, not_false_eq_true, decide_true, decide_false, Bool.not_true, Bool.not_false, false_implies, true_implies, and_true, true_and, Bool.false_eq_true, Bool.true_eq_false, implies_true, Bool.not_not, Classical.not_not, go_sem, Int.reduceToNat, List.take_nil, Nat.zero_mul, Nat.reduceEqDiff, Nat.reduceAdd, Nat.reduceLT, Nat.reduceLeDiff, Nat.reduceMul, ↓reduceIte, reduceCtorEq]
  refine loop_count S.length (fun k => ⟨[(0, .sl 0 0 S.length c), (1, .sl 1 0 X.length c'), (2, .i .i64 r), (7, .i .i64 (ceilN S X r k)), (8, .i .i64 k)], [.ro (encTask.row S), .ro (encSec.row X)]⟩) (fun _ => True) trivial (Wk.keep (by simp [look_cons, ceilN])) fun k hk _ => ?_
  simp only [l0_spec_l6Ceiling, not_true_eq_false, not_false_eq_true, decide_true, decide_false, Bool.not_true, Bool.not_false, false_implies, true_implies, and_true, true_and, Bool.false_eq_true, Bool.true_eq_false, implies_true, Bool.not_not, Classical.not_not, go_sem, Int.reduceToNat, List.take_nil, Nat.zero_mul, Nat.reduceEqDiff, Nat.reduceAdd, Nat.reduceLT, Nat.reduceLeDiff, Nat.reduceMul, ↓reduceIte, reduceCtorEq]
  refine ⟨fun hlt => ?_, fun hge => ?_⟩
  · have hkX : k < X.length := by omega
    have gt : gT S k = S[k] := gT_nat hlt
    have gx := gX_at hkX
    have hsucc : ceilN S X r (k + 1) = if 0 < X[k].Ln ∧ X[k].Rs = r then (if S[k].D < ceilN S X r k then S[k].D else ceilN S X r k) else ceilN S X r k := by rw [← gx, ← gt]; rfl
    simp only [rdX1 hkX, rdX2 hkX, rdT1 hlt, lenX, lenT, not_true_eq_false, not_false_eq_true, decide_true, decide_false, Bool.not_true, Bool.not_false, false_implies, true_implies, and_true, true_and, Bool.false_eq_true, Bool.true_eq_false, implies_true, Bool.not_not, Classical.not_not, go_sem, Int.reduceToNat, List.take_nil, Nat.zero_mul, Nat.reduceEqDiff, Nat.reduceAdd, Nat.reduceLT, Nat.reduceLeDiff, Nat.reduceMul, ↓reduceIte, reduceCtorEq]
    refine ⟨hkX, by omega, fun h1 => ⟨hkX, by omega, fun h2 => ⟨hlt, by omega, by omega, hlt, ?_⟩, fun h2 => ⟨by omega, hlt, ?_⟩⟩, fun h1 => ⟨by omega, hlt, ?_⟩⟩
    · rw [if_pos ⟨h1, h2⟩] at hsucc; rw [hsucc]; exact Wk.pick [0, 1]
    · rw [if_neg fun h => h2 h.2] at hsucc; rw [hsucc]; exact Wk.pick [0, 1]
    · rw [if_neg fun h => h1 h.1] at hsucc; rw [hsucc]; exact Wk.pick [0, 1]
  · have ek : k = S.length := by omega
    subst ek
    exact Fin.plain ⟨rfl, rfl⟩
theorem spec_l6Ceiling_ {S : List Task} {X : List Sec} (hl : X.length = S.length) (hs : S.length ≤ 1000) {r : Int} {v u : AV} {σ : List AB} (h : Rd encTask σ v S) (h' : Rd encSec σ u X) {K : AV → List AB → Prop} (hk : K (.i .i64 (ceilR S X r)) σ) : CallWp Try.prog n_spec_l6Ceiling [v, u, .i .i64 r] σ K :=
  call_rds _ (rds_cons h.r (rds1 h'.r)) (fun c => [.sl 0 0 S.length (c 0), .sl 1 0 X.length (c 1), .i .i64 r]) (fun c => spec_l6Ceiling0 S X hl hs r (c 0) (c 1)) (fun ν c h => ⟨h.1, h.2.1, .inl rfl, trivial⟩) (fun _ => rfl) rfl hk

theorem spec_l6Held0 (s : Sec) (d e : Int) (hs : 0 ≤ s.St ∧ s.St ≤ 1000 ∧ 0 ≤ s.Ln ∧ s.Ln ≤ 1000) : CallWp Try.prog n_spec_l6Held [.agg (encSec.f s), .i .i64 d, .i .i64 e] [] (fun x σ => x = .b (decide (0 < s.Ln ∧ s.St < d ∧ d < s.St + s.Ln ∧ d < e)) ∧ σ = []) := by
  refine call_spec_l6Held (by simp) ?_
  simp only [c_spec_l6Held, encXf, not_true_eq_false, not_false_eq_true, decide_true, decide_false, Bool.not_true, Bool.not_false, false_implies, true_implies, and_true, true_and, Bool.false_eq_true, Bool.true_eq_false, implies_true, Bool.not_not, Classical.not_not, go_sem, Int.reduceToNat, List.take_nil, Nat.zero_mul, Nat.reduceEqDiff, Nat.reduceAdd, Nat.reduceLT, Nat.reduceLeDiff, Nat.reduceMul, ↓reduceIte, reduceCtorEq]
  have fin : ∀ b : Bool, (b = true ↔ (0 < s.Ln ∧ s.St < d ∧ d < s.St + s.Ln ∧ d < e)) → Fin 0 [.rw ty_impl_Section [.i .i64 s.St, .i .i64 s.Ln, .i .i64 s.Rs] 3] (.b b) (fun x σ => x = .b (decide (0 < s.Ln ∧ s.St < d ∧ d < s.St + s.Ln ∧ d < e)) ∧ σ = []) := fun b hb => by
    refine Fin.pick [] (.b b) [] ⟨?_, rfl⟩
    congr 1
    rw [Bool.eq_iff_iff, decide_eq_true_eq]; exact hb
  refine ⟨fun h1 => ⟨fun h2 => ⟨by omega, fun h3 => fin _ ?_, fun h3 => fin _ ?_⟩, fun h2 => fin _ ?_⟩, fun h1 => fin _ ?_⟩
  · rw [decide_eq_true_eq]; omega
  · simp; omega
  · simp; omega
  · simp; omega
theorem spec_l6Held_ {s : Sec} {d e : Int} (hs : 0 ≤ s.St ∧ s.St ≤ 1000 ∧ 0 ≤ s.Ln ∧ s.Ln ≤ 1000) {σ : List AB} {K : AV → List AB → Prop} (hk : K (.b (decide (0 < s.Ln ∧ s.St < d ∧ d < s.St + s.Ln ∧ d < e))) σ) : CallWp Try.prog n_spec_l6Held [.agg (encSec.f s), .i .i64 d, .i .i64 e] σ K :=
  call0 (spec_l6Held0 s d e hs) rfl rfl hk
theorem spec_l6System0 (S : List Task) (X : List Sec) (L : List Job) (done : List Int) (hX : secsOk S X) (hL : jobsLegal S L) (hd : done.length = L.length) (c c' c3 c4 : Nat) : CallWp Try.prog n_spec_l6System [.sl 0 0 S.length c, .sl 1 0 X.length c', .sl 2 0 L.length c3, .sl 3 0 done.length c4] [.ro (encTask.row S), .ro (encSec.row X), .ro (encJob.row L), .ro (encInt.row done)]
    (fun x σ => x = .i .i64 (sysN S X L (heldS X L done) L.length) ∧ σ = [.ro (encTask.row S), .ro (encSec.row X), .ro (encJob.row L), .ro (encInt.row done)]) := by
  have h60 := hL.2.1.1
  have h5 := hX.1.1
  refine call_spec_l6System (by simp) ?_
  simp only [c_spec_l6System, not_true_eq_false, not_false_eq_true, decide_true, decide_false, Bool.not_true, Bool.not_false, false_implies, true_implies, and_true, true_and, Bool.false_eq_true, Bool.true_eq_false, implies_true, Bool.not_not, Classical.not_not, go_sem, Int.reduceToNat, List.take_nil, Nat.zero_mul, Nat.reduceEqDiff, Nat.reduceAdd, Nat.reduceLT, Nat.reduceLeDiff, Nat.reduceMul, ↓reduceIte, reduceCtorEq]
  refine loop_count L.length (fun k => ⟨[(0, .sl 0 0 S.length c), (1, .sl 1 0 X.length c'), (2, .sl 2 0 L.length c3), (3, .sl 3 0 done.length c4), (9, .i .i64 (sysN S X L (heldS X L done) k)), (10, .i .i64 k)], [.ro (encTask.row S), .ro (encSec.row X), .ro (encJob.row L), .ro (encInt.row done)]⟩) (fun _ => True) trivial (Wk.keep (by simp [look_cons, sysN])) fun k hk _ => ?_
  simp only [l0_spec_l6System, not_true_eq_false, not_false_eq_true, decide_true, decide_false, Bool.not_true, Bool.not_false, false_implies, true_implies, and_true, true_and, Bool.false_eq_true, Bool.true_eq_false, implies_true, Bool.not_not, Classical.not_not, go_sem, Int.reduceToNat, List.take_nil, Nat.zero_mul, Nat.reduceEqDiff, Nat.reduceAdd, Nat.reduceLT, Nat.reduceLeDiff, Nat.reduceMul, ↓reduceIte, reduceCtorEq]
  refine ⟨fun hlt => ?_, fun hge => ?_⟩
  · have hTk := (hL.2.1.mem (List.getElem_mem hlt)).1
    obtain ⟨q, hq⟩ := Int.eq_ofNat_of_zero_le hTk.1
    have hqX : q < X.length := by have := hX.2.1; omega
    have hkd : k < done.length := by omega
    have gL : L.getD k default = L[k] := by simp [List.getD_eq_getElem?_getD, hlt]
    have hjx : jX X L k = X[q] := by unfold jX; rw [gL, hq]; exact gX_at hqX
    have hsx := hX.2.2 q hqX
    rw [gX_at hqX] at hsx
    unfold secOk at hsx
    have htk := gT_ok hX.1 (show (0 : Int) ≤ q by omega) (show (q : Int) < S.length by omega)
    unfold Task.ok at htk
    have hsucc : sysN S X L (heldS X L done) (k + 1) = if heldS X L done k then (if ceilR S X X[q].Rs < sysN S X L (heldS X L done) k then ceilR S X X[q].Rs else sysN S X L (heldS X L done) k) else sysN S X L (heldS X L done) k := by rw [← hjx]; rfl
    have hh : heldS X L done k = decide (0 < X[q].Ln ∧ X[q].St < done[k] ∧ done[k] < X[q].St + X[q].Ln ∧ done[k] < L[k].E) := by unfold heldS; rw [hjx, gI_nat hkd, gL]
    rw [hh] at hsucc
    simp only [rdJ0 hlt, rdJ3 hlt, hq, Int.toNat_natCast, winX hqX, encXf, rdI hkd, lenJ, lenX, lenI, not_true_eq_false, not_false_eq_true, decide_true, decide_false, Bool.not_true, Bool.not_false, false_implies, true_implies, and_true, true_and, Bool.false_eq_true, Bool.true_eq_false, implies_true, Bool.not_not, Classical.not_not, go_sem, Int.reduceToNat, List.take_nil, Nat.zero_mul, Nat.reduceEqDiff, Nat.reduceAdd, Nat.reduceLT, Nat.reduceLeDiff, Nat.reduceMul, ↓reduceIte, reduceCtorEq]
    refine ⟨hlt, by omega, hqX, by omega, hkd, hkd, hlt, by omega, onCall.by (spec_l6Held_ (s := X[q]) (by omega) ⟨rfl, rfl⟩) ?_⟩
    by_cases hb : (0 < X[q].Ln ∧ X[q].St < done[k] ∧ done[k] < X[q].St + X[q].Ln ∧ done[k] < L[k].E)
    · rw [decide_eq_true hb, if_pos rfl] at hsucc
      simp only [decide_eq_true hb, not_true_eq_false, not_false_eq_true, decide_true, decide_false, Bool.not_true, Bool.not_false, false_implies, true_implies, and_true, true_and, Bool.false_eq_true, Bool.true_eq_false, implies_true, Bool.not_not, Classical.not_not, go_sem, Int.reduceToNat, List.take_nil, Nat.zero_mul, Nat.reduceEqDiff, Nat.reduceAdd, Nat.reduceLT, Nat.reduceLeDiff, Nat.reduceMul, ↓reduceIte, reduceCtorEq]
      refine spec_l6Ceiling_ (S := S) (X := X) hX.2.1 (by omega) (Rd.own rfl) (Rd.own rfl) ?_
      simp only [not_true_eq_false, not_false_eq_true, decide_true, decide_false, Bool.not_true, Bool.not_false, false_implies, true_implies, and_true, true_and, Bool.false_eq_true, Bool.true_eq_false, implies_true, Bool.not_not, Classical.not_not, go_sem, Int.reduceToNat, List.take_nil, Nat.zero_mul, Nat.reduceEqDiff, Nat.reduceAdd, Nat.reduceLT, Nat.reduceLeDiff, Nat.reduceMul, ↓reduceIte, reduceCtorEq]
      refine ⟨by omega, hlt, ?_⟩
      rw [hsucc]; exact Wk.pick [0, 1, 2, 3]
    · rw [decide_eq_false hb, if_neg (by simp)] at hsucc
      simp only [decide_eq_false hb, not_true_eq_false, not_false_eq_true, decide_true, decide_false, Bool.not_true, Bool.not_false, false_implies, true_implies, and_true, true_and, Bool.false_eq_true, Bool.true_eq_false, implies_true, Bool.not_not, Classical.not_not, go_sem, Int.reduceToNat, List.take_nil, Nat.zero_mul, Nat.reduceEqDiff, Nat.reduceAdd, Nat.reduceLT, Nat.reduceLeDiff, Nat.reduceMul, ↓reduceIte, reduceCtorEq]
      refine ⟨by omega, hlt, ?_⟩
      rw [hsucc]; exact Wk.pick [0, 1, 2, 3]
  · have ek : k = L.length := by omega
    subst ek
    exact Fin.plain ⟨rfl, rfl⟩
theorem spec_l6System_ {S : List Task} {X : List Sec} {L : List Job} {done : List Int} (hX : secsOk S X) (hL : jobsLegal S L) (hd : done.length = L.length) {u v w z : AV} {σ : List AB} (a1 : Rd encTask σ u S) (a2 : Rd encSec σ v X) (a3 : Rd encJob σ w L) (a4 : Rd encInt σ z done) {K : AV → List AB → Prop} (hk : K (.i .i64 (sysN S X L (heldS X L done) L.length)) σ) : CallWp Try.prog n_spec_l6System [u, v, w, z] σ K :=
  call_rds _ (rds_cons a1.r (rds_cons a2.r (rds_cons a3.r (rds1 a4.r)))) (fun c => [.sl 0 0 S.length (c 0), .sl 1 0 X.length (c 1), .sl 2 0 L.length (c 2), .sl 3 0 done.length (c 3)]) (fun c => spec_l6System0 S X L done hX hL hd (c 0) (c 1) (c 2) (c 3)) (fun ν c h => ⟨h.1, h.2.1, h.2.2.1, h.2.2.2.1, trivial⟩) (fun _ => rfl) rfl hk

def refWith (S : List Task) (L : List Job) (now : Nat) (done : List Int) (ce : Int) : Int :=
  if 0 ≤ bestF L.length (okS L done now) (keyD L) ∧ gI done (bestF L.length (okS L done now) (keyD L)) = 0 ∧ ce ≤ tD S L (bestF L.length (okS L done now) (keyD L))
  then bestF L.length (fun i => okS L done now i && startedB done i) (keyD L) else bestF L.length (okS L done now) (keyD L)

theorem spec_l6Best0 (S : List Task) (L : List Job) (done : List Int) (hL : jobsLegal S L) (hd : done.length = L.length) (ce : Int) (now : Nat) (hn : now ≤ 1000) (c c' c3 : Nat) : CallWp Try.prog n_spec_l6Best [.sl 0 0 S.length c, .sl 1 0 L.length c', .sl 2 0 done.length c3, .i .i64 ce, .i .i64 now] [.ro (encTask.row S), .ro (encJob.row L), .ro (encInt.row done)]
    (fun x σ => x = .i .i64 (refWith S L now done ce) ∧ σ = [.ro (encTask.row S), .ro (encJob.row L), .ro (encInt.row done)]) := by
  have h60 := hL.2.1.1
  have h5 := hL.1.1
  refine call_spec_l6Best (by simp) ?_
  simp only [c_spec_l6Best, not_true_eq_false, not_false_eq_true, decide_true, decide_false, Bool.not_true, Bool.not_false, false_implies, true_implies, and_true, true_and, Bool.false_eq_true, Bool.true_eq_false, implies_true, Bool.not_not, Classical.not_not, go_sem, Int.reduceToNat, List.take_nil, Nat.zero_mul, Nat.reduceEqDiff, Nat.reduceAdd, Nat.reduceLT, Nat.reduceLeDiff, Nat.reduceMul, ↓reduceIte, reduceCtorEq]
  refine loop_count L.length (fun k => ⟨[(0, .sl 0 0 S.length c), (1, .sl 1 0 L.length c'), (2, .sl 2 0 done.length c3), (3, .i .i64 ce), (4, .i .i64 now), (11, .i .i64 (bestF k (okS L done now) (keyD L))), (12, .i .i64 (bestF k (fun i => okS L done now i && startedB done i) (keyD L))), (13, .i .i64 k)], [.ro (encTask.row S), .ro (encJob.row L), .ro (encInt.row done)]⟩) (fun _ => True) trivial (Wk.keep (by simp [look_cons, bestF])) fun k hk _ => ?_
  simp only [l0_spec_l6Best, not_true_eq_false, not_false_eq_true, decide_true, decide_false, Bool.not_true, Bool.not_false, false_implies, true_implies, and_true, true_and, Bool.false_eq_true, Bool.true_eq_false, implies_true, Bool.not_not, Classical.not_not, go_sem, Int.reduceToNat, List.take_nil, Nat.zero_mul, Nat.reduceEqDiff, Nat.reduceAdd, Nat.reduceLT, Nat.reduceLeDiff, Nat.reduceMul, ↓reduceIte, reduceCtorEq]
  refine ⟨fun hlt => ?_, fun hge => ?_⟩
  · have hkd : k < done.length := by omega
    have gL : L.getD k default = L[k] := by simp [List.getD_eq_getElem?_getD, hlt]
    have encj : encJob.f L[k] = [.i .i64 L[k].T, .i .i64 L[k].R, .i .i64 L[k].D, .i .i64 L[k].E] := rfl
    have b1 := bestF_succ k (okS L done now) (keyD L)
    have b2 := bestF_succ k (fun i => okS L done now i && startedB done i) (keyD L)
    have r1 := bestF_range (okS L done now) (keyD L) k
    have r2 := bestF_range (fun i => okS L done now i && startedB done i) (keyD L) k
    have hok : okS L done now k = decide (L[k].R ≤ (now : Int) ∧ done[k] ≠ L[k].E) := by unfold okS; rw [gL, gI_nat hkd]
    have hst : startedB done k = decide (0 < done[k]) := by unfold startedB; rw [gI_nat hkd]
    have hkey : keyD L k = L[k].D := by unfold keyD; rw [gL]
    simp only [hok, hst, hkey] at b1 b2
    generalize bestF k (okS L done now) (keyD L) = x at *
    generalize bestF k (fun i => okS L done now i && startedB done i) (keyD L) = y at *
    simp only [winJ hlt, encj, rdI hkd, lenJ, lenI, not_true_eq_false, not_false_eq_true, decide_true, decide_false, Bool.not_true, Bool.not_false, false_implies, true_implies, and_true, true_and, Bool.false_eq_true, Bool.true_eq_false, implies_true, Bool.not_not, Classical.not_not, go_sem, Int.reduceToNat, List.take_nil, Nat.zero_mul, Nat.reduceEqDiff, Nat.reduceAdd, Nat.reduceLT, Nat.reduceLeDiff, Nat.reduceMul, ↓reduceIte, reduceCtorEq]
    have skip : ¬ (L[k].R ≤ (now : Int) ∧ done[k] ≠ L[k].E) → bestF (k + 1) (okS L done now) (keyD L) = x ∧ bestF (k + 1) (fun i => okS L done now i && startedB done i) (keyD L) = y := fun h => by
      rw [decide_eq_false h] at b1 b2
      exact ⟨b1.trans (if_neg (by simp)), b2.trans (if_neg (by simp))⟩
    refine ⟨hlt, by omega, fun hR => ⟨hkd, hkd, fun hE => ⟨by omega, hlt, ?_⟩, fun hE => ?_⟩, fun hR => ⟨by omega, hlt, ?_⟩⟩
    · obtain ⟨s1, s2⟩ := skip fun h => h.2 hE
      rw [s1, s2]; exact Wk.pick [0, 1, 2]
    · rw [decide_eq_true (show L[k].R ≤ (now : Int) ∧ done[k] ≠ L[k].E from ⟨by omega, hE⟩)] at b1 b2
      refine seq_join (fun _ : Unit => ⟨[(0, .sl 0 0 S.length c), (1, .sl 1 0 L.length c'), (2, .sl 2 0 done.length c3), (3, .i .i64 ce), (4, .i .i64 now), (11, .i .i64 (bestF (k + 1) (okS L done now) (keyD L))), (12, .i .i64 y), (13, .i .i64 k), (14, .p 3 0)], [.ro (encTask.row S), .ro (encJob.row L), .ro (encInt.row done), .rw ty_impl_Job [.i .i64 L[k].T, .i .i64 L[k].R, .i .i64 L[k].D, .i .i64 L[k].E] 4]⟩) (fun _ => True) ?_ fun _ _ => ?_
      · simp only [not_true_eq_false, not_false_eq_true, decide_true, decide_false, Bool.not_true, Bool.not_false, false_implies, true_implies, and_true, true_and, Bool.false_eq_true, Bool.true_eq_false, implies_true, Bool.not_not, Classical.not_not, go_sem, Int.reduceToNat, List.take_nil, Nat.zero_mul, Nat.reduceEqDiff, Nat.reduceAdd, Nat.reduceLT, Nat.reduceLeDiff, Nat.reduceMul, ↓reduceIte, reduceCtorEq]
        refine ⟨fun hx => ?_, fun hx => ?_⟩
        · obtain ⟨n, rfl⟩ := Int.eq_ofNat_of_zero_le (show 0 ≤ x by omega)
          have hn : n < L.length := by omega
          have hkn : keyD L n = L[n].D := by unfold keyD; simp [List.getD_eq_getElem?_getD, hn]
          rw [Int.toNat_natCast, hkn] at b1
          simp only [Int.toNat_natCast, rdJ2 hn, lenJ, not_true_eq_false, not_false_eq_true, decide_true, decide_false, Bool.not_true, Bool.not_false, false_implies, true_implies, and_true, true_and, Bool.false_eq_true, Bool.true_eq_false, implies_true, Bool.not_not, Classical.not_not, go_sem, Int.reduceToNat, List.take_nil, Nat.zero_mul, Nat.reduceEqDiff, Nat.reduceAdd, Nat.reduceLT, Nat.reduceLeDiff, Nat.reduceMul, ↓reduceIte, reduceCtorEq]
          refine ⟨by omega, by omega, fun h1 => ?_, fun h1 => ?_⟩
          · rw [if_pos ⟨rfl, .inr h1⟩] at b1
            rw [b1]; exact kJ_intro () trivial (Wk.keep (by simp [look_cons]))
          · rw [if_neg (fun h => by rcases h.2 with h | h <;> omega)] at b1
            rw [b1]; exact kJ_intro () trivial (Wk.keep (by simp [look_cons]))
        · rw [if_pos ⟨rfl, .inl (by omega)⟩] at b1
          rw [b1]; exact kJ_intro () trivial (Wk.keep (by simp [look_cons]))
      · simp only [rdI hkd, lenI, not_true_eq_false, not_false_eq_true, decide_true, decide_false, Bool.not_true, Bool.not_false, false_implies, true_implies, and_true, true_and, Bool.false_eq_true, Bool.true_eq_false, implies_true, Bool.not_not, Classical.not_not, go_sem, Int.reduceToNat, List.take_nil, Nat.zero_mul, Nat.reduceEqDiff, Nat.reduceAdd, Nat.reduceLT, Nat.reduceLeDiff, Nat.reduceMul, ↓reduceIte, reduceCtorEq]
        refine ⟨hkd, hkd, fun hp => ⟨fun hy => ?_, fun hy => ?_⟩, fun hp => ?_⟩
        · obtain ⟨n, rfl⟩ := Int.eq_ofNat_of_zero_le (show 0 ≤ y by omega)
          have hn : n < L.length := by omega
          have hkn : keyD L n = L[n].D := by unfold keyD; simp [List.getD_eq_getElem?_getD, hn]
          rw [Int.toNat_natCast, hkn] at b2
          simp only [Int.toNat_natCast, rdJ2 hn, lenJ, not_true_eq_false, not_false_eq_true, decide_true, decide_false, Bool.not_true, Bool.not_false, false_implies, true_implies, and_true, true_and, Bool.false_eq_true, Bool.true_eq_false, implies_true, Bool.not_not, Classical.not_not, go_sem, Int.reduceToNat, List.take_nil, Nat.zero_mul, Nat.reduceEqDiff, Nat.reduceAdd, Nat.reduceLT, Nat.reduceLeDiff, Nat.reduceMul, ↓reduceIte, reduceCtorEq]
          refine ⟨by omega, by omega, fun h1 => ⟨by omega, hlt, ?_⟩, fun h1 => ⟨by omega, hlt, ?_⟩⟩
          · rw [if_pos ⟨by simp [hp], .inr h1⟩] at b2
            rw [b2]; exact Wk.pick [0, 1, 2]
          · rw [if_neg (fun h => by rcases h.2 with h | h <;> omega)] at b2
            rw [b2]; exact Wk.pick [0, 1, 2]
        · refine ⟨by omega, hlt, ?_⟩
          rw [if_pos ⟨by simp [hp], .inl (by omega)⟩] at b2
          rw [b2]; exact Wk.pick [0, 1, 2]
        · refine ⟨by omega, hlt, ?_⟩
          rw [if_neg (fun h => by simp [hp] at h)] at b2
          rw [b2]; exact Wk.pick [0, 1, 2]
    · obtain ⟨s1, s2⟩ := skip fun h => by omega
      rw [s1, s2]; exact Wk.pick [0, 1, 2]
  · have ek : k = L.length := by omega
    subst ek
    unfold refWith
    have r1 := bestF_range (okS L done now) (keyD L) L.length
    generalize bestF L.length (okS L done now) (keyD L) = x at *
    generalize bestF L.length (fun i => okS L done now i && startedB done i) (keyD L) = y at *
    refine ⟨fun hx => ?_, fun hx => Fin.plain ⟨by rw [if_neg fun h => hx h.1], rfl⟩⟩
    obtain ⟨n, rfl⟩ := Int.eq_ofNat_of_zero_le hx
    have hn : n < L.length := by omega
    have hnd : n < done.length := by omega
    have hTn := (hL.2.1.mem (List.getElem_mem hn)).1
    obtain ⟨q, hq⟩ := Int.eq_ofNat_of_zero_le hTn.1
    have hqS : q < S.length := by omega
    have gd := gI_nat hnd
    have htd : tD S L n = S[q].D := by unfold tD; rw [Int.toNat_natCast, show L.getD n default = L[n] by simp [List.getD_eq_getElem?_getD, hn], hq]; rw [gT_nat hqS]
    rw [gd, htd]
    simp only [Int.toNat_natCast, rdI hnd, rdJ0 hn, hq, rdT1 hqS, lenI, lenJ, lenT, not_true_eq_false, not_false_eq_true, decide_true, decide_false, Bool.not_true, Bool.not_false, false_implies, true_implies, and_true, true_and, Bool.false_eq_true, Bool.true_eq_false, implies_true, Bool.not_not, Classical.not_not, go_sem, Int.reduceToNat, List.take_nil, Nat.zero_mul, Nat.reduceEqDiff, Nat.reduceAdd, Nat.reduceLT, Nat.reduceLeDiff, Nat.reduceMul, ↓reduceIte, reduceCtorEq]
    refine ⟨by omega, by omega, fun h0 => ⟨by omega, by omega, by omega, by omega, fun hce => Fin.plain ⟨by simp [h0, hce], rfl⟩, fun hce => Fin.plain ⟨by simp [h0, hce], rfl⟩⟩, fun h0 => Fin.plain ⟨by simp [h0], rfl⟩⟩
theorem spec_l6Best_ {S : List Task} {L : List Job} {done : List Int} (hL : jobsLegal S L) (hd : done.length = L.length) {ce : Int} {now : Nat} (hn : now ≤ 1000) {u v w : AV} {σ : List AB} (a1 : Rd encTask σ u S) (a2 : Rd encJob σ v L) (a3 : Rd encInt σ w done) {K : AV → List AB → Prop} (hk : K (.i .i64 (refWith S L now done ce)) σ) : CallWp Try.prog n_spec_l6Best [u, v, w, .i .i64 ce, .i .i64 now] σ K :=
  call_rds _ (rds_cons a1.r (rds_cons a2.r (rds1 a3.r))) (fun c => [.sl 0 0 S.length (c 0), .sl 1 0 L.length (c 1), .sl 2 0 done.length (c 2), .i .i64 ce, .i .i64 now]) (fun c => spec_l6Best0 S L done hL hd ce now hn (c 0) (c 1) (c 2)) (fun ν c h => ⟨h.1, h.2.1, h.2.2.1, .inl rfl, .inl rfl, trivial⟩) (fun _ => rfl) rfl hk
end Go.Proofs.Ytnlciginmeebhaa
