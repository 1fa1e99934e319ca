import Derived.Test.YtnlciginmeebhaaC1
import Derived.Test.YtnlciginmeebhaaM40
namespace Go.Proofs.Ytnlciginmeebhaa
open Go.Abs Go.Ds
set_option linter.unusedSimpArgs false
set_option linter.unusedVariables false
set_option maxRecDepth 20000
def encArr : Enc Arr := ⟨fun s => [.i .i64 s.t, .i .i64 s.e], 2, fun _ => rfl, fun _ => rfl⟩
theorem lenA (L : List Arr) : (encArr.row L).length = L.length * 2 := encArr.row_length L
theorem rdA0 {L : List Arr} {k : Nat} (h : k < L.length) : rd (encArr.row L) (k * 2) = .i .i64 (L[k]'h).t := encArr.rd L k 0 h (by decide)
theorem rdA1 {L : List Arr} {k : Nat} (h : k < L.length) : rd (encArr.row L) (k * 2 + 1) = .i .i64 (L[k]'h).e := encArr.rd L k 1 h (by decide)
theorem winA {L : List Arr} {k : Nat} (h : k < L.length) : win (encArr.row L) (k * 2) 2 = encArr.f (L[k]'h) := encArr.win L k h
theorem encAf (s : Arr) : encArr.f s = [.i .i64 s.t, .i .i64 s.e] := rfl
theorem impl_ArrivalsLegal0 (L : List Arr) (hs : L.length ≤ 1099511627776) (c : Nat) : CallWp Try.prog n_impl_ArrivalsLegal [.sl 0 0 L.length c] [.ro (encArr.row L)] (fun x σ => x = .b (decide (arrLegal L)) ∧ σ = [.ro (encArr.row L)]) := by
  refine call_impl_ArrivalsLegal (by simp) ?_
  simp only [c_impl_ArrivalsLegal, go_sem, Int.reduceToNat, List.take_nil, Nat.zero_mul, Nat.reduceEqDiff, Nat.reduceAdd, Nat.reduceLT, Nat.reduceLeDiff, Nat.reduceMul, ↓reduceIte, reduceCtorEq]
  refine loop_count L.length (fun k => ⟨[(0, .sl 0 0 L.length c), (5, .sl 0 0 L.length c), (6, .i .i64 L.length), (7, .i .i64 k)], [.ro (encArr.row L)]⟩) (fun k => ∀ i (h : i < L.length), i < k → arrAt L i h) (fun i h hi => by omega) (Wk.pick [0]) fun k hk hJ => ?_
  simp only [l0_impl_ArrivalsLegal, go_sem, Int.reduceToNat, List.take_nil, Nat.zero_mul, Nat.reduceEqDiff, Nat.reduceAdd, Nat.reduceLT, Nat.reduceLeDiff, Nat.reduceMul, ↓reduceIte, reduceCtorEq]
  refine ⟨fun h => ?_, fun h => ?_⟩
  · have no : ¬ arrAt L k h → Fin 1 [.ro (encArr.row L), .rw ty_impl_Arrival [.i .i64 L[k].t, .i .i64 L[k].e] 2] (.b false) (fun x σ => x = .b (decide (arrLegal L)) ∧ σ = [.ro (encArr.row L)]) := fun hn => Fin.pick [0] (.b false) _ ⟨by rw [decide_eq_false fun hs => hn (hs.2 k h)], rfl⟩
    have nxt : arrAt L k h → ∀ i (h : i < L.length), i < k + 1 → arrAt L i h := fun hy i hi hik => by
      by_cases e : i = k
      · subst e; exact hy
      · exact hJ i hi (by omega)
    unfold arrAt at no nxt
    simp only [winA h, encAf, lenA, not_true_eq_false, not_false_eq_true, decide_true, decide_false, Bool.not_true, Bool.not_false, false_implies, true_implies, and_true, true_and, Bool.false_eq_true, Bool.true_eq_false, implies_true, Bool.not_not, Classical.not_not, go_sem, Int.reduceToNat, List.take_nil, Nat.zero_mul, Nat.reduceEqDiff, Nat.reduceAdd, Nat.reduceLT, Nat.reduceLeDiff, Nat.reduceMul, ↓reduceIte, reduceCtorEq]
    refine ⟨h, by omega, onCall.by (impl_in_ _ _ _ ⟨rfl, rfl⟩) ?_⟩
    simp only [not_true_eq_false, not_false_eq_true, decide_true, decide_false, Bool.not_true, Bool.not_false, false_implies, true_implies, and_true, true_and, Bool.false_eq_true, Bool.true_eq_false, implies_true, Bool.not_not, Classical.not_not, go_sem, Int.reduceToNat, List.take_nil, Nat.zero_mul, Nat.reduceEqDiff, Nat.reduceAdd, Nat.reduceLT, Nat.reduceLeDiff, Nat.reduceMul, ↓reduceIte, reduceCtorEq]
    refine ⟨fun g1 => onCall.by (impl_in_ _ _ _ ⟨rfl, rfl⟩) ?_, fun g1 => no fun hh => g1 hh.1⟩
    simp only [not_true_eq_false, not_false_eq_true, decide_true, decide_false, Bool.not_true, Bool.not_false, false_implies, true_implies, and_true, true_and, Bool.false_eq_true, Bool.true_eq_false, implies_true, Bool.not_not, Classical.not_not, go_sem, Int.reduceToNat, List.take_nil, Nat.zero_mul, Nat.reduceEqDiff, Nat.reduceAdd, Nat.reduceLT, Nat.reduceLeDiff, Nat.reduceMul, ↓reduceIte, reduceCtorEq]
    refine ⟨fun g2 => ?_, fun g2 => no fun hh => g2 hh.2.1⟩
    rcases Nat.eq_zero_or_pos k with rfl | hk0
    · simp only [not_true_eq_false, not_false_eq_true, decide_true, decide_false, Bool.not_true, Bool.not_false, false_implies, true_implies, and_true, true_and, Bool.false_eq_true, Bool.true_eq_false, implies_true, Bool.not_not, Classical.not_not, go_sem, Int.reduceToNat, List.take_nil, Nat.zero_mul, Nat.reduceEqDiff, Nat.reduceAdd, Nat.reduceLT, Nat.reduceLeDiff, Nat.reduceMul, ↓reduceIte, reduceCtorEq]
      repeat' first | omega | (exfalso; omega) | exact Wk.pick [0] | exact nxt ⟨g1, g2, fun h0 => by omega⟩ | refine ⟨?_, ?_⟩ | intro _
    · have hm : (k : Int) - 1 = ((k - 1 : Nat) : Int) := by omega
      have hk1 : k - 1 < L.length := by omega
      simp only [hm, Int.toNat_natCast, rdA0 hk1, lenA, not_true_eq_false, not_false_eq_true, decide_true, decide_false, Bool.not_true, Bool.not_false, false_implies, true_implies, and_true, true_and, Bool.false_eq_true, Bool.true_eq_false, implies_true, Bool.not_not, Classical.not_not, go_sem, Int.reduceToNat, List.take_nil, Nat.zero_mul, Nat.reduceEqDiff, Nat.reduceAdd, Nat.reduceLT, Nat.reduceLeDiff, Nat.reduceMul, ↓reduceIte, reduceCtorEq]
      exact ⟨fun _ => ⟨by omega, hk1, by omega, fun h3 => no (fun hh => by have := hh.2.2 hk0; omega), fun h3 => ⟨by omega, ⟨h, nxt ⟨g1, g2, fun _ => by omega⟩⟩, Wk.pick [0]⟩⟩, fun hh => absurd hh (by omega)⟩
  · have ek : k = L.length := by omega
    subst ek
    refine Fin.same ?_
    congr 1; apply decide_eq_decide.2
    exact ⟨fun hl => ⟨by omega, fun i hi => hJ i hi hi⟩, fun hl => by have := hl.1; omega⟩
theorem impl_ArrivalsLegal_ {L : List Arr} (hs : L.length ≤ 1099511627776) {v : AV} {σ : List AB} (h : Rd encArr σ v L) {K : AV → List AB → Prop} (hk : K (.b (decide (arrLegal L))) σ) : CallWp Try.prog n_impl_ArrivalsLegal [v] σ K :=
  call_rds _ (rds1 h.r) (fun c => [.sl 0 0 L.length (c 0)]) (fun c => impl_ArrivalsLegal0 L hs (c 0)) (fun ν c h => ⟨h.1, trivial⟩) (fun _ => rfl) rfl hk
theorem spec_ArrivalsLegal0 (L : List Arr) (hs : L.length ≤ 1099511627776) (c : Nat) : CallWp Try.prog n_spec_ArrivalsLegal [.sl 0 0 L.length c] [.ro (encArr.row L)] (fun x σ => x = .b (decide (arrLegal L)) ∧ σ = [.ro (encArr.row L)]) := by
  refine call_spec_ArrivalsLegal (by simp) ?_
  simp only [c_spec_ArrivalsLegal, go_sem, Int.reduceToNat, List.take_nil, Nat.zero_mul, Nat.reduceEqDiff, Nat.reduceAdd, Nat.reduceLT, Nat.reduceLeDiff, Nat.reduceMul, ↓reduceIte, reduceCtorEq]
  refine loop_count L.length (fun k => ⟨[(0, .sl 0 0 L.length c), (3, .i .i64 k)], [.ro (encArr.row L)]⟩) (fun k => ∀ i (h : i < L.length), i < k → arrAt L i h) (fun i h hi => by omega) (Wk.pick [0]) fun k hk hJ => ?_
  simp only [l0_spec_ArrivalsLegal, go_sem, Int.reduceToNat, List.take_nil, Nat.zero_mul, Nat.reduceEqDiff, Nat.reduceAdd, Nat.reduceLT, Nat.reduceLeDiff, Nat.reduceMul, ↓reduceIte, reduceCtorEq]
  refine ⟨fun h => ?_, fun h => ?_⟩
  · have no : ¬ arrAt L k h → Fin 1 [.ro (encArr.row L)] (.b false) (fun x σ => x = .b (decide (arrLegal L)) ∧ σ = [.ro (encArr.row L)]) := fun hn => Fin.pick [0] (.b false) _ ⟨by rw [decide_eq_false fun hs => hn (hs.2 k h)], rfl⟩
    have nxt : arrAt L k h → ∀ i (h : i < L.length), i < k + 1 → arrAt L i h := fun hy i hi hik => by
      by_cases e : i = k
      · subst e; exact hy
      · exact hJ i hi (by omega)
    unfold arrAt at no nxt
    simp only [rdA0 h, rdA1 h, lenA, not_true_eq_false, not_false_eq_true, decide_true, decide_false, Bool.not_true, Bool.not_false, false_implies, true_implies, and_true, true_and, Bool.false_eq_true, Bool.true_eq_false, implies_true, Bool.not_not, Classical.not_not, go_sem, Int.reduceToNat, List.take_nil, Nat.zero_mul, Nat.reduceEqDiff, Nat.reduceAdd, Nat.reduceLT, Nat.reduceLeDiff, Nat.reduceMul, ↓reduceIte, reduceCtorEq]
    refine ⟨h, by omega, onCall.by (spec_l1In_ _ _ _ ⟨rfl, rfl⟩) ?_⟩
    simp only [rdA0 h, rdA1 h, lenA, not_true_eq_false, not_false_eq_true, decide_true, decide_false, Bool.not_true, Bool.not_false, false_implies, true_implies, and_true, true_and, Bool.false_eq_true, Bool.true_eq_false, implies_true, Bool.not_not, Classical.not_not, go_sem, Int.reduceToNat, List.take_nil, Nat.zero_mul, Nat.reduceEqDiff, Nat.reduceAdd, Nat.reduceLT, Nat.reduceLeDiff, Nat.reduceMul, ↓reduceIte, reduceCtorEq]
    refine ⟨fun g1 => ⟨h, by omega, onCall.by (spec_l1In_ _ _ _ ⟨rfl, rfl⟩) ?_⟩, fun g1 => no fun hh => g1 hh.1⟩
    simp only [rdA0 h, rdA1 h, lenA, not_true_eq_false, not_false_eq_true, decide_true, decide_false, Bool.not_true, Bool.not_false, false_implies, true_implies, and_true, true_and, Bool.false_eq_true, Bool.true_eq_false, implies_true, Bool.not_not, Classical.not_not, go_sem, Int.reduceToNat, List.take_nil, Nat.zero_mul, Nat.reduceEqDiff, Nat.reduceAdd, Nat.reduceLT, Nat.reduceLeDiff, Nat.reduceMul, ↓reduceIte, reduceCtorEq]
    refine ⟨fun g2 => ?_, fun g2 => no fun hh => g2 hh.2.1⟩
    rcases Nat.eq_zero_or_pos k with rfl | hk0
    · simp only [not_true_eq_false, not_false_eq_true, decide_true, decide_false, Bool.not_true, Bool.not_false, false_implies, true_implies, and_true, true_and, Bool.false_eq_true, Bool.true_eq_false, implies_true, Bool.not_not, Classical.not_not, go_sem, Int.reduceToNat, List.take_nil, Nat.zero_mul, Nat.reduceEqDiff, Nat.reduceAdd, Nat.reduceLT, Nat.reduceLeDiff, Nat.reduceMul, ↓reduceIte, reduceCtorEq]
      repeat' first | omega | (exfalso; omega) | exact Wk.pick [0] | exact nxt ⟨g1, g2, fun h0 => by omega⟩ | refine ⟨?_, ?_⟩ | intro _
    · have hm : (k : Int) - 1 = ((k - 1 : Nat) : Int) := by omega
      have hk1 : k - 1 < L.length := by omega
      simp only [hm, Int.toNat_natCast, rdA0 hk1, rdA0 h, lenA, not_true_eq_false, not_false_eq_true, decide_true, decide_false, Bool.not_true, Bool.not_false, false_implies, true_implies, and_true, true_and, Bool.false_eq_true, Bool.true_eq_false, implies_true, Bool.not_not, Classical.not_not, go_sem, Int.reduceToNat, List.take_nil, Nat.zero_mul, Nat.reduceEqDiff, Nat.reduceAdd, Nat.reduceLT, Nat.reduceLeDiff, Nat.reduceMul, ↓reduceIte, reduceCtorEq]
      exact ⟨fun _ => ⟨by omega, hk1, by omega, h, by omega, fun h3 => no (fun hh => by have := hh.2.2 hk0; omega), fun h3 => ⟨by omega, ⟨h, nxt ⟨g1, g2, fun _ => by omega⟩⟩, Wk.pick [0]⟩⟩, fun hh => absurd hh (by omega)⟩
  · have ek : k = L.length := by omega
    subst ek
    refine Fin.same ?_
    congr 1; apply decide_eq_decide.2
    exact ⟨fun hl => ⟨by omega, fun i hi => hJ i hi hi⟩, fun hl => by have := hl.1; omega⟩
theorem spec_ArrivalsLegal_ {L : List Arr} (hs : L.length ≤ 1099511627776) {v : AV} {σ : List AB} (h : Rd encArr σ v L) {K : AV → List AB → Prop} (hk : K (.b (decide (arrLegal L))) σ) : CallWp Try.prog n_spec_ArrivalsLegal [v] σ K :=
  call_rds _ (rds1 h.r) (fun c => [.sl 0 0 L.length (c 0)]) (fun c => spec_ArrivalsLegal0 L hs (c 0)) (fun ν c h => ⟨h.1, trivial⟩) (fun _ => rfl) rfl hk
end Go.Proofs.Ytnlciginmeebhaa
