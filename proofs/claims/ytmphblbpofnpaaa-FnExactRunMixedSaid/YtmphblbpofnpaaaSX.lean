import Derived.Test.YtmphblbpofnpaaaS5
import Derived.Test.YtmphblbpofnpaaaMX
import Derived.Test.YtmphblbpofnpaaaE2
import Derived.Test.YtmphblbpofnpaaaS19
import Derived.Test.YtmphblbpofnpaaaS23
import Derived.Test.YtmphblbpofnpaaaS39
namespace Go.Proofs.Ytmphblbpofnpaaa
open Go.Abs Go.Ds
set_option linter.unusedSimpArgs false
set_option linter.unusedVariables false
set_option maxRecDepth 20000
set_option maxHeartbeats 1000000
def encMT : Enc MTask := ⟨fun s => [.i .i64 s.Lo, .i .i64 s.Hi, .i .i64 s.P, .b s.V], 4, fun _ => rfl, fun _ => rfl⟩
theorem lenM (L : List MTask) : (encMT.row L).length = L.length * 4 := encMT.row_length L
theorem rdM0 {L : List MTask} {k : Nat} (h : k < L.length) : rd (encMT.row L) (k * 4) = .i .i64 (L[k]'h).Lo := encMT.rd L k 0 h (by decide)
theorem rdM1 {L : List MTask} {k : Nat} (h : k < L.length) : rd (encMT.row L) (k * 4 + 1) = .i .i64 (L[k]'h).Hi := encMT.rd L k 1 h (by decide)
theorem rdM2 {L : List MTask} {k : Nat} (h : k < L.length) : rd (encMT.row L) (k * 4 + 2) = .i .i64 (L[k]'h).P := encMT.rd L k 2 h (by decide)
theorem rdM3 {L : List MTask} {k : Nat} (h : k < L.length) : rd (encMT.row L) (k * 4 + 3) = .b (L[k]'h).V := encMT.rd L k 3 h (by decide)
theorem winM {L : List MTask} {k : Nat} (h : k < L.length) : win (encMT.row L) (k * 4) 4 = encMT.f (L[k]'h) := encMT.win L k h
theorem encMf (s : MTask) : encMT.f s = [.i .i64 s.Lo, .i .i64 s.Hi, .i .i64 s.P, .b s.V] := rfl
theorem impl_MixedValid_10 (t : MTask) (r : Bool) (hr : r = true ↔ ¬ ((1 ≤ t.Lo ∧ t.Lo ≤ 8) ∧ (t.Lo ≤ t.Hi ∧ t.Hi ≤ t.P) ∧ t.P ≤ 12 ∧ (t.V = false → t.Hi = t.Lo))) : CallWp Try.prog n_impl_MixedValid_1 [.agg (encMT.f t)] [] (fun x σ => x = .b r ∧ σ = []) := by
  refine call_impl_MixedValid_1 (by simp) ?_
  simp only [c_impl_MixedValid_1, encMf, not_true_eq_false, not_false_eq_true, decide_true, decide_false, Bool.not_true, Bool.not_false, false_implies, true_implies, and_true, true_and, Bool.false_eq_true, Bool.true_eq_false, implies_true, Bool.not_not, Classical.not_not, go_sem, Int.reduceToNat, List.take_nil, Nat.zero_mul, Nat.reduceEqDiff, Nat.reduceAdd, Nat.reduceLT, Nat.reduceLeDiff, Nat.reduceMul, ↓reduceIte, reduceCtorEq]
  refine impl_in_ _ _ _ ?_
  have fin : ∀ b : Bool, (b = true ↔ r = true) → Fin 0 [.rw ty_impl_MixedTask [.i .i64 t.Lo, .i .i64 t.Hi, .i .i64 t.P, .b t.V] 4] (.b b) (fun x σ => x = .b r ∧ σ = []) := fun b hb => by
    refine Fin.pick [] (.b b) [] ⟨?_, rfl⟩
    congr 1
    rw [Bool.eq_iff_iff]; exact hb
  simp only [not_true_eq_false, not_false_eq_true, decide_true, decide_false, Bool.not_true, Bool.not_false, false_implies, true_implies, and_true, true_and, Bool.false_eq_true, Bool.true_eq_false, implies_true, Bool.not_not, Classical.not_not, go_sem, Int.reduceToNat, List.take_nil, Nat.zero_mul, Nat.reduceEqDiff, Nat.reduceAdd, Nat.reduceLT, Nat.reduceLeDiff, Nat.reduceMul, ↓reduceIte, reduceCtorEq]
  cases hV : t.V
  · rw [hV] at fin hr
    simp only [not_true_eq_false, not_false_eq_true, decide_true, decide_false, Bool.not_true, Bool.not_false, false_implies, true_implies, and_true, true_and, Bool.false_eq_true, Bool.true_eq_false, implies_true, Bool.not_not, Classical.not_not, go_sem, Int.reduceToNat, List.take_nil, Nat.zero_mul, Nat.reduceEqDiff, Nat.reduceAdd, Nat.reduceLT, Nat.reduceLeDiff, Nat.reduceMul, ↓reduceIte, reduceCtorEq] at fin hr ⊢
    repeat' first | (refine fin _ ?_; rw [hr]; simp; omega) | refine ⟨?_, ?_⟩ | intro _
  · rw [hV] at fin hr
    simp only [not_true_eq_false, not_false_eq_true, decide_true, decide_false, Bool.not_true, Bool.not_false, false_implies, true_implies, and_true, true_and, Bool.false_eq_true, Bool.true_eq_false, implies_true, Bool.not_not, Classical.not_not, go_sem, Int.reduceToNat, List.take_nil, Nat.zero_mul, Nat.reduceEqDiff, Nat.reduceAdd, Nat.reduceLT, Nat.reduceLeDiff, Nat.reduceMul, ↓reduceIte, reduceCtorEq] at fin hr ⊢
    repeat' first | (refine fin _ ?_; rw [hr]; simp; omega) | refine ⟨?_, ?_⟩ | intro _
theorem impl_MixedValid_1_ (t : MTask) {σ : List AB} {K : AV → List AB → Prop} (hk : K (.b (!decide t.ok)) σ) : CallWp Try.prog n_impl_MixedValid_1 [.agg (encMT.f t)] σ K := call0 (impl_MixedValid_10 t (!decide t.ok) (by rw [Bool.not_eq_true', decide_eq_false_iff_not]; rfl)) rfl rfl hk
section
variable {f : Nat} {first caps : List (Nat × Nat)} {σ : List AB} {v : AV} {L : List MTask} {K : AV → List AB → Prop}
theorem slices_IndexFunc_impl_MixedTask_ (hs : L.length ≤ 1099511627776) (h : Rd encMT σ v L) (p : MTask → Bool) (hp : ∀ t ∈ L, ∀ K : AV → List AB → Prop, K (.b (p t)) σ → CallWp Try.prog f (pAV first ++ [.agg (encMT.f t)] ++ pAV caps) σ K)
    (hk : K (.i .i64 (idxF p L)) σ) : CallWp Try.prog n_slices_IndexFunc_impl_MixedTask [v, .fn f first caps] σ K := by
  refine call_slices_IndexFunc_impl_MixedTask (by simp) ?_
  rcases h with ⟨n, o, cap, cs, rfl, hn, hc, hle, hw⟩ | ⟨rfl, rfl, h0⟩
  · simp only [c_slices_IndexFunc_impl_MixedTask, go_sem, Int.reduceToNat, List.take_nil, Nat.zero_mul, Nat.reduceEqDiff, Nat.reduceAdd, Nat.reduceLT, Nat.reduceLeDiff, Nat.reduceMul, ↓reduceIte, reduceCtorEq]
    refine loop_count L.length (fun k => ⟨[(0, .sl n o L.length cap), (1, .fn f first caps), (7, .i .i64 L.length), (8, .i .i64 k)], σ⟩) (fun k => ∀ x ∈ L.take k, p x = false) (by simp) (Wk.keep (by simp [look_cons])) fun k hkl hJ => ?_
    simp only [l0_slices_IndexFunc_impl_MixedTask, go_sem, Int.reduceToNat, List.take_nil, Nat.zero_mul, Nat.reduceEqDiff, Nat.reduceAdd, Nat.reduceLT, Nat.reduceLeDiff, Nat.reduceMul, ↓reduceIte, reduceCtorEq]
    refine ⟨fun h => ⟨by omega, ?_⟩, fun h => ?_⟩
    · obtain ⟨h1, h2⟩ := win_at hle hw k h
      simp only [encMT] at h1 h2
      rw [onC_of hc]
      refine ⟨h1, ?_⟩
      rw [h2]
      refine hp _ (List.getElem_mem _) _ ?_
      simp only [go_sem, Int.reduceToNat, List.take_nil, Nat.zero_mul, Nat.reduceEqDiff, Nat.reduceAdd, Nat.reduceLT, Nat.reduceLeDiff, Nat.reduceMul, ↓reduceIte, reduceCtorEq]
      refine bc_of (fun h3 => Fin.plain ?_) fun h3 => ⟨by omega, ⟨h, (all_take_succ h).2 ⟨hJ, h3⟩⟩, Wk.keep (by simp [look_cons])⟩
      rw [← idxF_found h hJ h3]; exact hk
    · have e : k = L.length := by omega
      subst e
      rw [List.take_length] at hJ
      refine Fin.plain ?_
      rw [← idxF_none hJ]; exact hk
  · simp only [c_slices_IndexFunc_impl_MixedTask, go_sem, Int.reduceToNat, List.take_nil, Nat.zero_mul, Nat.reduceEqDiff, Nat.reduceAdd, Nat.reduceLT, Nat.reduceLeDiff, Nat.reduceMul, ↓reduceIte, reduceCtorEq]
    refine loop_count 0 (fun k => ⟨[(0, .sn), (1, .fn f first caps), (7, .i .i64 0), (8, .i .i64 k)], σ⟩) (fun k => k = 0) rfl (Wk.keep (by simp [look_cons])) fun k hkl hJ => ?_
    subst hJ
    simp only [l0_slices_IndexFunc_impl_MixedTask, go_sem, Int.reduceToNat, List.take_nil, Nat.zero_mul, Nat.reduceEqDiff, Nat.reduceAdd, Nat.reduceLT, Nat.reduceLeDiff, Nat.reduceMul, ↓reduceIte, reduceCtorEq]
    refine ⟨fun h => ?_, fun h => Fin.plain ?_⟩
    · exact absurd h (by simp)
    · rw [← idxF_none (p := p) (L := []) (by simp)]; exact hk
theorem slices_ContainsFunc_impl_MixedTask_ (hs : L.length ≤ 1099511627776) (h : Rd encMT σ v L) (p : MTask → Bool) (hp : ∀ t ∈ L, ∀ K : AV → List AB → Prop, K (.b (p t)) σ → CallWp Try.prog f (pAV first ++ [.agg (encMT.f t)] ++ pAV caps) σ K)
    (hk : K (.b (decide (∃ x ∈ L, p x = true))) σ) : CallWp Try.prog n_slices_ContainsFunc_impl_MixedTask [v, .fn f first caps] σ K := by
  refine call_slices_ContainsFunc_impl_MixedTask (by simp) ?_
  simp only [c_slices_ContainsFunc_impl_MixedTask, h.data, go_sem, Int.reduceToNat, List.take_nil, Nat.zero_mul, Nat.reduceEqDiff, Nat.reduceAdd, Nat.reduceLT, Nat.reduceLeDiff, Nat.reduceMul, ↓reduceIte, reduceCtorEq]
  refine slices_IndexFunc_impl_MixedTask_ hs h p hp ?_
  simp only [go_sem, Int.reduceToNat, List.take_nil, Nat.zero_mul, Nat.reduceEqDiff, Nat.reduceAdd, Nat.reduceLT, Nat.reduceLeDiff, Nat.reduceMul, ↓reduceIte, reduceCtorEq]
  refine Fin.plain ?_
  rw [decide_eq_decide.2 idxF_any]; exact hk
end
theorem impl_MixedValid0 (L : List MTask) (hs : L.length ≤ 1099511627776) (c : Nat) : CallWp Try.prog n_impl_MixedValid [.sl 0 0 L.length c] [.ro (encMT.row L)] (fun x σ => x = .b (decide (mixOk L)) ∧ σ = [.ro (encMT.row L)]) := by
  refine call_impl_MixedValid (by simp) ?_
  simp only [c_impl_MixedValid, go_sem, Int.reduceToNat, List.take_nil, Nat.zero_mul, Nat.reduceEqDiff, Nat.reduceAdd, Nat.reduceLT, Nat.reduceLeDiff, Nat.reduceMul, ↓reduceIte, reduceCtorEq]
  refine ⟨fun h => ?_, fun h => Fin.same ?_⟩
  · refine slices_ContainsFunc_impl_MixedTask_ hs (Rd.own rfl) (fun t => !decide t.ok) (fun t _ K hk => impl_MixedValid_1_ t hk) ?_
    simp only [go_sem, Int.reduceToNat, List.take_nil, Nat.zero_mul, Nat.reduceEqDiff, Nat.reduceAdd, Nat.reduceLT, Nat.reduceLeDiff, Nat.reduceMul, ↓reduceIte, reduceCtorEq]
    refine Fin.same ?_
    congr 1; apply decide_eq_decide.2
    simp only [mixOk, not_exists, not_and, decide_eq_true_eq, Decidable.not_not]
    exact ⟨fun h1 => ⟨by omega, h1⟩, fun h1 => h1.2⟩
  · congr 1; symm; apply decide_eq_false
    intro h1; have := h1.1; omega
theorem impl_MixedValid_ {L : List MTask} (hs : L.length ≤ 1099511627776) {v : AV} {σ : List AB} (h : Rd encMT σ v L) {K : AV → List AB → Prop} (hk : K (.b (decide (mixOk L))) σ) : CallWp Try.prog n_impl_MixedValid [v] σ K :=
  call_rds _ (rds1 h.r) (fun c => [.sl 0 0 L.length (c 0)]) (fun c => impl_MixedValid0 L hs (c 0)) (fun ν c h => ⟨h.1, trivial⟩) (fun _ => rfl) rfl hk
theorem spec_MixedValid0 (S : List MTask) (hs : S.length ≤ 1099511627776) (c : Nat) : CallWp Try.prog n_spec_MixedValid [.sl 0 0 S.length c] [.ro (encMT.row S)] (fun x σ => x = .b (decide (mixOk S)) ∧ σ = [.ro (encMT.row S)]) := by
  refine call_spec_MixedValid (by simp) ?_
  simp only [c_spec_MixedValid, go_sem, Int.reduceToNat, List.take_nil, Nat.zero_mul, Nat.reduceEqDiff, Nat.reduceAdd, Nat.reduceLT, Nat.reduceLeDiff, Nat.reduceMul, ↓reduceIte, reduceCtorEq]
  refine loop_count S.length (fun k => ⟨[(0, .sl 0 0 S.length c), (3, .i .i64 k)], [.ro (encMT.row S)]⟩) (fun k => ∀ x ∈ S.take k, x.ok) (by simp) (Wk.pick [0]) fun k hk hJ => ?_
  simp only [l0_spec_MixedValid, go_sem, Int.reduceToNat, List.take_nil, Nat.zero_mul, Nat.reduceEqDiff, Nat.reduceAdd, Nat.reduceLT, Nat.reduceLeDiff, Nat.reduceMul, ↓reduceIte, reduceCtorEq]
  refine ⟨fun h => ?_, fun h => Fin.same ?_⟩
  · have no : ¬ S[k].ok → Fin 1 [.ro (encMT.row S), .rw ty_impl_MixedTask [.i .i64 S[k].Lo, .i .i64 S[k].Hi, .i .i64 S[k].P, .b S[k].V] 4] (.b false) (fun x σ => x = .b (decide (mixOk S)) ∧ σ = [.ro (encMT.row S)]) := fun hn => Fin.pick [0] (.b false) _ ⟨by rw [decide_eq_false fun hs => hn (hs.2 _ (List.getElem_mem _))], rfl⟩
    have nxt : S[k].ok → (k < S.length ∧ ∀ x ∈ S.take (k + 1), x.ok) := fun h1 => ⟨h, (all_take_succ h).2 ⟨hJ, h1⟩⟩
    unfold MTask.ok at no nxt
    simp only [winM h, encMf, lenM, not_true_eq_false, not_false_eq_true, decide_true, decide_false, Bool.not_true, Bool.not_false, false_implies, true_implies, and_true, true_and, Bool.false_eq_true, Bool.true_eq_false, implies_true, Bool.not_not, Classical.not_not, go_sem, Int.reduceToNat, List.take_nil, Nat.zero_mul, Nat.reduceEqDiff, Nat.reduceAdd, Nat.reduceLT, Nat.reduceLeDiff, Nat.reduceMul, ↓reduceIte, reduceCtorEq]
    refine ⟨by omega, by omega, spec_l1In_ _ _ _ ?_⟩
    simp only [not_true_eq_false, not_false_eq_true, decide_true, decide_false, Bool.not_true, Bool.not_false, false_implies, true_implies, and_true, true_and, Bool.false_eq_true, Bool.true_eq_false, implies_true, Bool.not_not, Classical.not_not, go_sem, Int.reduceToNat, List.take_nil, Nat.zero_mul, Nat.reduceEqDiff, Nat.reduceAdd, Nat.reduceLT, Nat.reduceLeDiff, Nat.reduceMul, ↓reduceIte, reduceCtorEq]
    refine ⟨fun h1 => spec_l1In_ _ _ _ ?_, fun h1 => no (by omega)⟩
    simp only [not_true_eq_false, not_false_eq_true, decide_true, decide_false, Bool.not_true, Bool.not_false, false_implies, true_implies, and_true, true_and, Bool.false_eq_true, Bool.true_eq_false, implies_true, Bool.not_not, Classical.not_not, go_sem, Int.reduceToNat, List.take_nil, Nat.zero_mul, Nat.reduceEqDiff, Nat.reduceAdd, Nat.reduceLT, Nat.reduceLeDiff, Nat.reduceMul, ↓reduceIte, reduceCtorEq]
    refine ⟨fun h2 => spec_l1In_ _ _ _ ?_, fun h2 => no (by omega)⟩
    cases hV : S[k].V
    · rw [hV] at no nxt
      simp only [not_true_eq_false, not_false_eq_true, decide_true, decide_false, Bool.not_true, Bool.not_false, false_implies, true_implies, and_true, true_and, Bool.false_eq_true, Bool.true_eq_false, implies_true, Bool.not_not, Classical.not_not, go_sem, Int.reduceToNat, List.take_nil, Nat.zero_mul, Nat.reduceEqDiff, Nat.reduceAdd, Nat.reduceLT, Nat.reduceLeDiff, Nat.reduceMul, ↓reduceIte, reduceCtorEq] at no nxt ⊢
      exact ⟨fun h3 => ⟨fun h4 => no (by omega), fun h4 => ⟨by omega, nxt (by omega), Wk.pick [0]⟩⟩, fun h3 => no (by omega)⟩
    · rw [hV] at no nxt
      simp only [not_true_eq_false, not_false_eq_true, decide_true, decide_false, Bool.not_true, Bool.not_false, false_implies, true_implies, and_true, true_and, Bool.false_eq_true, Bool.true_eq_false, implies_true, Bool.not_not, Classical.not_not, go_sem, Int.reduceToNat, List.take_nil, Nat.zero_mul, Nat.reduceEqDiff, Nat.reduceAdd, Nat.reduceLT, Nat.reduceLeDiff, Nat.reduceMul, ↓reduceIte, reduceCtorEq] at no nxt ⊢
      exact ⟨fun h3 => ⟨by omega, nxt (by omega), Wk.pick [0]⟩, fun h3 => no (by omega)⟩
  · have e : k = S.length := by omega
    subst e
    rw [List.take_length] at hJ
    congr 1; apply decide_eq_decide.2
    exact ⟨fun h => ⟨by omega, hJ⟩, fun h => by have := h.1; omega⟩
theorem spec_MixedValid_ {L : List MTask} (hs : L.length ≤ 1099511627776) {v : AV} {σ : List AB} (h : Rd encMT σ v L) {K : AV → List AB → Prop} (hk : K (.b (decide (mixOk L))) σ) : CallWp Try.prog n_spec_MixedValid [v] σ K :=
  call_rds _ (rds1 h.r) (fun c => [.sl 0 0 L.length (c 0)]) (fun c => spec_MixedValid0 L hs (c 0)) (fun ν c h => ⟨h.1, trivial⟩) (fun _ => rfl) rfl hk
end Go.Proofs.Ytmphblbpofnpaaa
/- Contracts: mixed criticality: legal patterns. -/
namespace Go.Proofs.Ytmphblbpofnpaaa
open Go.Abs Go.Ds
set_option linter.unusedSimpArgs false
set_option linter.unusedVariables false
set_option maxRecDepth 20000
set_option maxHeartbeats 1000000
theorem Rd.own' {α : Type} {E : Enc α} {σ : List AB} {n len cap : Nat} {L : List α} (h : cellsOf σ n = some (E.row L)) (hl : L.length = len) : Rd E σ (.sl n 0 len cap) L := by subst hl; exact Rd.own h
theorem gM_eq {S : List MTask} {t : Int} (h : t.toNat < S.length) : gM S t = S[t.toNat] := by simp [gM, List.getD_eq_getElem?_getD, h]
section
variable {σ : List AB} {x : Nat × Nat} {S : List MTask} {K : AV → List AB → Prop}
theorem impl_MixedLegal_1_ (h : Cap encMT σ x S) (t : Int) (h0 : 0 ≤ t) (h1 : t < S.length) (hk : K (.i .i64 (hiOf S t)) σ) : CallWp Try.prog n_impl_MixedLegal_1 [.i .i64 t, .p x.1 x.2] σ K := by
  obtain ⟨cs, n, c, e1, e2, e3, e4⟩ := h
  have ht : t.toNat < S.length := by omega
  refine call_impl_MixedLegal_1 (by simp) ?_
  simp only [c_impl_MixedLegal_1, onC_of e1, onC_of e4, e3, rdM1 ht, lenM, ← gM_eq ht, not_true_eq_false, not_false_eq_true, decide_true, decide_false, Bool.not_true, Bool.not_false, false_implies, true_implies, and_true, true_and, Bool.false_eq_true, Bool.true_eq_false, implies_true, Bool.not_not, Classical.not_not, go_sem, Int.reduceToNat, List.take_nil, Nat.zero_mul, Nat.reduceEqDiff, Nat.reduceAdd, Nat.reduceLT, Nat.reduceLeDiff, Nat.reduceMul, ↓reduceIte, reduceCtorEq]
  exact ⟨e2, ⟨h0, h1⟩, by omega, Fin.plain hk⟩
theorem impl_MixedLegal_2_ (h : Cap encMT σ x S) (t : Int) (h0 : 0 ≤ t) (h1 : t < S.length) (hk : K (.i .i64 (perM S t)) σ) : CallWp Try.prog n_impl_MixedLegal_2 [.i .i64 t, .p x.1 x.2] σ K := by
  obtain ⟨cs, n, c, e1, e2, e3, e4⟩ := h
  have ht : t.toNat < S.length := by omega
  refine call_impl_MixedLegal_2 (by simp) ?_
  simp only [c_impl_MixedLegal_2, onC_of e1, onC_of e4, e3, rdM2 ht, lenM, ← gM_eq ht, not_true_eq_false, not_false_eq_true, decide_true, decide_false, Bool.not_true, Bool.not_false, false_implies, true_implies, and_true, true_and, Bool.false_eq_true, Bool.true_eq_false, implies_true, Bool.not_not, Classical.not_not, go_sem, Int.reduceToNat, List.take_nil, Nat.zero_mul, Nat.reduceEqDiff, Nat.reduceAdd, Nat.reduceLT, Nat.reduceLeDiff, Nat.reduceMul, ↓reduceIte, reduceCtorEq]
  exact ⟨e2, ⟨h0, h1⟩, by omega, Fin.plain hk⟩
theorem impl_MixedLegal_3_ (h : Cap encMT σ x S) (hS : mixOk S) (j : Job) (h0 : 0 ≤ j.T) (h1 : j.T < S.length) (hR : 0 ≤ j.R ∧ j.R ≤ 119) (hk : K (.b (decide (j.D ≠ j.R + perM S j.T))) σ) :
    CallWp Try.prog n_impl_MixedLegal_3 [.agg (encJob.f j), .p x.1 x.2] σ K := by
  obtain ⟨cs, n, c, e1, e2, e3, e4⟩ := h
  have ht : j.T.toNat < S.length := by omega
  have t1 := gM_ok hS h0 h1
  unfold MTask.ok at t1
  refine callC_impl_MixedLegal_3 (by simp) fun hC _ => ?_
  simp only [c_impl_MixedLegal_3, encJ, onC_of e1, onC_of e4, onC_old e1, onC_old e4, at_new, at_new0, e3, rdM2 ht, lenM, ← gM_eq ht, not_true_eq_false, not_false_eq_true, decide_true, decide_false, Bool.not_true, Bool.not_false, false_implies, true_implies, and_true, true_and, Bool.false_eq_true, Bool.true_eq_false, implies_true, Bool.not_not, Classical.not_not, go_sem, Int.reduceToNat, List.take_nil, Nat.zero_mul, Nat.reduceEqDiff, Nat.reduceAdd, Nat.reduceLT, Nat.reduceLeDiff, Nat.reduceMul, ↓reduceIte, reduceCtorEq]
  refine ⟨e2, ⟨h0, h1⟩, by omega, by omega, ?_⟩
  exact Fin.drop hC (Nat.le_refl _) rfl hk
end
theorem some_neM {L : List Job} {S : List MTask} : (∃ j ∈ L, decide (j.D ≠ j.R + perM S j.T) = true) ↔ ¬ ∀ j ∈ L, j.D = j.R + perM S j.T := by
  simp
theorem impl_MixedLegal0 (S : List MTask) (L : List Job) (hs : S.length ≤ 1048576) (hl : L.length ≤ 1048576) (c c' : Nat) : CallWp Try.prog n_impl_MixedLegal [.sl 0 0 S.length c, .sl 1 0 L.length c'] [.ro (encMT.row S), .ro (encJob.row L)]
    (fun x σ => x = .b (decide (mixLegal S L)) ∧ σ = [.ro (encMT.row S), .ro (encJob.row L)]) := by
  refine call_impl_MixedLegal (by simp) ?_
  simp only [c_impl_MixedLegal, go_sem, Int.reduceToNat, List.take_nil, Nat.zero_mul, Nat.reduceEqDiff, Nat.reduceAdd, Nat.reduceLT, Nat.reduceLeDiff, Nat.reduceMul, ↓reduceIte, reduceCtorEq]
  have hcap : Cap encMT [.ro (encMT.row S), .ro (encJob.row L), .rw ty_sl_impl_MixedTask [.sl 0 0 S.length c] 1] (2, 0) S := ⟨_, 0, c, rfl, by simp, rfl, rfl⟩
  refine impl_MixedValid_ (L := S) (by omega) (Rd.own rfl) ?_
  simp only [not_true_eq_false, not_false_eq_true, decide_true, decide_false, Bool.not_true, Bool.not_false, false_implies, true_implies, and_true, true_and, Bool.false_eq_true, Bool.true_eq_false, implies_true, Bool.not_not, Classical.not_not, go_sem, Int.reduceToNat, List.take_nil, Nat.zero_mul, Nat.reduceEqDiff, Nat.reduceAdd, Nat.reduceLT, Nat.reduceLeDiff, Nat.reduceMul, ↓reduceIte, reduceCtorEq]
  refine ⟨fun h1 => ?_, fun h1 => Fin.same ?_⟩
  · refine impl_ordered_ (σ := [.ro (encMT.row S), .ro (encJob.row L), .rw ty_sl_impl_MixedTask [.sl 0 0 S.length c] 1]) S.length (hiOf S) rfl (by omega) (by omega) (fun t h0 h2 τ K hk => impl_MixedLegal_1_ (hcap.app τ) t h0 h2 hk) ?_
    simp only [h1, not_true_eq_false, not_false_eq_true, decide_true, decide_false, Bool.not_true, Bool.not_false, false_implies, true_implies, and_true, true_and, Bool.false_eq_true, Bool.true_eq_false, implies_true, Bool.not_not, Classical.not_not, go_sem, Int.reduceToNat, List.take_nil, Nat.zero_mul, Nat.reduceEqDiff, Nat.reduceAdd, Nat.reduceLT, Nat.reduceLeDiff, Nat.reduceMul, ↓reduceIte, reduceCtorEq]
    refine ⟨fun h2 => ?_, fun h2 => Fin.same ?_⟩
    · refine impl_spaced_ (σ := [.ro (encMT.row S), .ro (encJob.row L), .rw ty_sl_impl_MixedTask [.sl 0 0 S.length c] 1]) Job.R (perM S) rfl (by omega) (fun j hj => by have := h2.mem hj; have := h1.1; omega)
        (fun j hj τ K hk => impl_release_ j hk) (fun j hj τ K hk => impl_MixedLegal_2_ (hcap.app τ) j.T (h2.mem hj).1.1 (h2.mem hj).1.2 hk) ?_
      simp only [h1, h2, not_true_eq_false, not_false_eq_true, decide_true, decide_false, Bool.not_true, Bool.not_false, false_implies, true_implies, and_true, true_and, Bool.false_eq_true, Bool.true_eq_false, implies_true, Bool.not_not, Classical.not_not, go_sem, Int.reduceToNat, List.take_nil, Nat.zero_mul, Nat.reduceEqDiff, Nat.reduceAdd, Nat.reduceLT, Nat.reduceLeDiff, Nat.reduceMul, ↓reduceIte, reduceCtorEq]
      refine ⟨fun h3 => ?_, fun h3 => Fin.same ?_⟩
      · refine slices_ContainsFunc_impl_Job_ (L := L) (by omega) (Rd.own rfl) (fun j => decide (j.D ≠ j.R + perM S j.T)) (fun j hj K hk => impl_MixedLegal_3_ hcap h1 j (h2.mem hj).1.1 (h2.mem hj).1.2 (h2.mem hj).2.1 hk) ?_
        simp only [h1, h2, not_true_eq_false, not_false_eq_true, decide_true, decide_false, Bool.not_true, Bool.not_false, false_implies, true_implies, and_true, true_and, Bool.false_eq_true, Bool.true_eq_false, implies_true, Bool.not_not, Classical.not_not, go_sem, Int.reduceToNat, List.take_nil, Nat.zero_mul, Nat.reduceEqDiff, Nat.reduceAdd, Nat.reduceLT, Nat.reduceLeDiff, Nat.reduceMul, ↓reduceIte, reduceCtorEq]
        refine Fin.same ?_
        congr 1; apply decide_eq_decide.2
        rw [some_neM]
        exact ⟨fun h => ⟨h1, h2, h3, Classical.not_not.1 h⟩, fun h hn => hn h.2.2.2⟩
      · congr 1; symm; apply decide_eq_false
        exact fun hh => h3 hh.2.2.1
    · congr 1; symm; apply decide_eq_false
      exact fun hh => h2 hh.2.1
  · congr 1; symm; apply decide_eq_false
    exact fun hh => h1 hh.1
theorem impl_MixedLegal_ {S : List MTask} {L : List Job} (hs : S.length ≤ 1048576) (hl : L.length ≤ 1048576) {v u : AV} {σ : List AB} (h : Rd encMT σ v S) (h' : Rd encJob σ u L) {K : AV → List AB → Prop} (hk : K (.b (decide (mixLegal S L))) σ) : CallWp Try.prog n_impl_MixedLegal [v, u] σ K :=
  call_rds _ (rds_cons h.r (rds1 h'.r)) (fun c => [.sl 0 0 S.length (c 0), .sl 1 0 L.length (c 1)]) (fun c => impl_MixedLegal0 S L hs hl (c 0) (c 1)) (fun ν c h => ⟨h.1, h.2.1, trivial⟩) (fun _ => rfl) rfl hk
theorem spec_MixedLegal0 (S : List MTask) (L : List Job) (hs : S.length ≤ 1048576) (hl : L.length ≤ 1048576) (c c' : Nat) : CallWp Try.prog n_spec_MixedLegal [.sl 0 0 S.length c, .sl 1 0 L.length c'] [.ro (encMT.row S), .ro (encJob.row L)]
    (fun x σ => x = .b (decide (mixLegal S L)) ∧ σ = [.ro (encMT.row S), .ro (encJob.row L)]) := by
  refine call_spec_MixedLegal (by simp) ?_
  simp only [c_spec_MixedLegal, go_sem, Int.reduceToNat, List.take_nil, Nat.zero_mul, Nat.reduceEqDiff, Nat.reduceAdd, Nat.reduceLT, Nat.reduceLeDiff, Nat.reduceMul, ↓reduceIte, reduceCtorEq]
  refine spec_MixedValid_ (L := S) (by omega) (Rd.own rfl) ?_
  simp only [not_true_eq_false, not_false_eq_true, decide_true, decide_false, Bool.not_true, Bool.not_false, false_implies, true_implies, and_true, true_and, Bool.false_eq_true, Bool.true_eq_false, implies_true, Bool.not_not, Classical.not_not, go_sem, Int.reduceToNat, List.take_nil, Nat.zero_mul, Nat.reduceEqDiff, Nat.reduceAdd, Nat.reduceLT, Nat.reduceLeDiff, Nat.reduceMul, ↓reduceIte, reduceCtorEq]
  have no : ¬ mixLegal S L → ∀ τ : List AB, Fin 2 ([.ro (encMT.row S), .ro (encJob.row L)] ++ τ) (.b false) (fun x σ => x = .b (decide (mixLegal S L)) ∧ σ = [.ro (encMT.row S), .ro (encJob.row L)]) := fun hno τ =>
    Fin.drop (σ := [.ro (encMT.row S), .ro (encJob.row L)]) (Closed.add (σ := []) (fun n B h => by simp at h) (by simp [Go.Abs.cellsIn, Go.Abs.Enc.row_bel])) (Nat.le_refl _) rfl ⟨by rw [decide_eq_false hno], rfl⟩
  refine ⟨fun hS => no (fun h => hS h.1) [_], fun hS => ?_⟩
  have h5 := hS.1
  have hpl : ∀ k, (plainS (S.take k)).length = (S.take k).length := fun k => by simp [plainS]
  refine loop_intro (fun i : Nat × Nat => ⟨[(0, .sl 0 0 S.length c), (1, .sl 1 0 L.length c'), (5, .sl 2 0 i.1 i.2), (6, .i .i64 i.1)], [.ro (encMT.row S), .ro (encJob.row L), .rw ty_impl_Task (encTask.row (plainS (S.take i.1))) (i.2 * 3)]⟩)
    (fun i => i.1 ≤ S.length ∧ i.1 ≤ i.2) (fun i => S.length - i.1) (0, 0) ⟨by simp only; omega, by simp only; omega⟩ (by simp only [List.take_zero, show encTask.row (plainS []) = [] from rfl]; exact Wk.pick [0, 1, 2]) ?_
  rintro ⟨k, cp⟩ ⟨hk1, hk2⟩
  simp only at hk1 hk2
  simp only [l1_spec_MixedLegal, not_true_eq_false, not_false_eq_true, decide_true, decide_false, Bool.not_true, Bool.not_false, false_implies, true_implies, and_true, true_and, Bool.false_eq_true, Bool.true_eq_false, implies_true, Bool.not_not, Classical.not_not, go_sem, Int.reduceToNat, List.take_nil, Nat.zero_mul, Nat.reduceEqDiff, Nat.reduceAdd, Nat.reduceLT, Nat.reduceLeDiff, Nat.reduceMul, ↓reduceIte, reduceCtorEq]
  refine ⟨fun hlt => ?_, fun hge => ?_⟩
  · have e1 : (S.take k).length = k := by rw [List.length_take]; omega
    have e2 : (plainS (S.take k)).length = k := by rw [hpl, e1]
    have e3 : plainS (S.take (k + 1)) = plainS (S.take k) ++ [⟨1, S[k].P, S[k].P⟩] := by
      rw [List.take_succ_eq_append_getElem hlt]; unfold plainS; rw [List.map_append]; rfl
    have e4 : List.take (k * 3) (encTask.row (plainS (S.take k))) = encTask.row (plainS (S.take k)) := by have := takeT (plainS (S.take k)); rwa [e2] at this
    simp only [rdM2 hlt, lenM, lenT, e2, e4, appT, not_true_eq_false, not_false_eq_true, decide_true, decide_false, Bool.not_true, Bool.not_false, false_implies, true_implies, and_true, true_and, Bool.false_eq_true, Bool.true_eq_false, implies_true, Bool.not_not, Classical.not_not, go_sem, Int.reduceToNat, List.take_nil, Nat.zero_mul, Nat.reduceEqDiff, Nat.reduceAdd, Nat.reduceLT, Nat.reduceLeDiff, Nat.reduceMul, ↓reduceIte, reduceCtorEq]
    refine ⟨hlt, by omega, hlt, by omega, by omega, by omega, fun cp' hcp => ⟨by omega, by omega, (k + 1, cp'), ⟨⟨by simp only; omega, by simp only; omega⟩, by simp only; omega⟩, ?_⟩⟩
    simp only [e3, show ((k + 1 : Nat) : Int) = (k : Int) + 1 from by omega]
    exact Wk.pick [0, 1, 4]
  · have ek : k = S.length := by omega
    subst ek
    rw [List.take_length]
    have hps : (plainS S).length = S.length := by simp [plainS]
    have hwin : win (encJob.row L) 0 (L.length * 4) = encJob.row L := by
      have := encJob.part L 0 L.length
      rw [Nat.zero_mul] at this
      rw [show encJob.k = 4 from rfl] at this
      rw [this]; simp
    rw [hwin]
    simp only [lenJ, not_true_eq_false, not_false_eq_true, decide_true, decide_false, Bool.not_true, Bool.not_false, false_implies, true_implies, and_true, true_and, Bool.false_eq_true, Bool.true_eq_false, implies_true, Bool.not_not, Classical.not_not, go_sem, Int.reduceToNat, List.take_nil, Nat.zero_mul, Nat.reduceEqDiff, Nat.reduceAdd, Nat.reduceLT, Nat.reduceLeDiff, Nat.reduceMul, ↓reduceIte, reduceCtorEq]
    refine ⟨by omega, fun c3 hc3 => ?_⟩
    have hsl : ∀ k, ((L.take k).map shortJ ++ L.drop k).length = L.length := fun k => by simp; omega
    refine loop_count L.length (fun k => ⟨[(0, .sl 0 0 S.length c), (5, .sl 2 0 S.length cp), (7, .sl 3 0 L.length c3), (8, .i .i64 k)], [.ro (encMT.row S), .ro (encJob.row L), .rw ty_impl_Task (encTask.row (plainS S)) (cp * 3), .rw ty_impl_Job (encJob.row ((L.take k).map shortJ ++ L.drop k)) (c3 * 4)]⟩)
      (fun k => ∀ i (h : i < L.length), i < k → (0 ≤ L[i].T ∧ L[i].T < S.length) ∧ 1 ≤ L[i].E ∧ L[i].E ≤ hiOf S L[i].T) (fun i h h0 => absurd h0 (by omega)) (by simp only [List.take_zero, List.map_nil, List.nil_append, List.drop_zero]; exact Wk.pick [0, 1, 2, 4]) fun k hk hJ => ?_
    have hsk := hsl k
    have hmem : ∀ (h : k < L.length) (hq : k < ((L.take k).map shortJ ++ L.drop k).length), ((L.take k).map shortJ ++ L.drop k)[k]'hq = L[k] := fun h h' => by
      rw [List.getElem_append_right (by simp; omega)]
      simp [Nat.min_eq_left (Nat.le_of_lt h)]
    have hset : ∀ (h : k < L.length), ((L.take k).map shortJ ++ L.drop k).set k ⟨L[k].T, L[k].R, L[k].D, 1⟩ = (L.take (k + 1)).map shortJ ++ L.drop (k + 1) := fun h => by
      rw [List.set_append_right _ _ (by simp; omega), List.take_succ_eq_append_getElem h, List.map_append, List.append_assoc]
      congr 1
      rw [List.length_map, List.length_take, Nat.min_eq_left (Nat.le_of_lt h), Nat.sub_self, List.drop_eq_getElem_cons h, List.set_cons_zero]
      rfl
    generalize hM : (L.take k).map shortJ ++ L.drop k = M at hsk hmem hset ⊢
    simp only [l0_spec_MixedLegal, not_true_eq_false, not_false_eq_true, decide_true, decide_false, Bool.not_true, Bool.not_false, false_implies, true_implies, and_true, true_and, Bool.false_eq_true, Bool.true_eq_false, implies_true, Bool.not_not, Classical.not_not, go_sem, Int.reduceToNat, List.take_nil, Nat.zero_mul, Nat.reduceEqDiff, Nat.reduceAdd, Nat.reduceLT, Nat.reduceLeDiff, Nat.reduceMul, ↓reduceIte, reduceCtorEq]
    refine ⟨fun hlt => ?_, fun hge => ?_⟩
    · have hkM : k < M.length := by omega
      have hm := hmem hlt hkM
      have hst := hset hlt
      have hbad : ∀ h : ¬ ((0 ≤ L[k].T ∧ L[k].T < S.length) ∧ 1 ≤ L[k].E ∧ L[k].E ≤ hiOf S L[k].T), ¬ mixLegal S L := fun h hl => h (hl.jobs.1 _ (List.getElem_mem hlt))
      have hgood : ((0 ≤ L[k].T ∧ L[k].T < S.length) ∧ 1 ≤ L[k].E ∧ L[k].E ≤ hiOf S L[k].T) → ∀ i (h : i < L.length), i < k + 1 → (0 ≤ L[i].T ∧ L[i].T < S.length) ∧ 1 ≤ L[i].E ∧ L[i].E ≤ hiOf S L[i].T := fun h i hi hik => by
        rcases Nat.lt_or_eq_of_le (Nat.le_of_lt_succ hik) with h2 | rfl
        · exact hJ i hi h2
        · exact h
      have hs1 := splJ3 hkM 1
      rw [hm, hst] at hs1
      simp only [rdJ0 hkM, rdJ3 hkM, hm, lenJ, hsk, not_true_eq_false, not_false_eq_true, decide_true, decide_false, Bool.not_true, Bool.not_false, false_implies, true_implies, and_true, true_and, Bool.false_eq_true, Bool.true_eq_false, implies_true, Bool.not_not, Classical.not_not, go_sem, Int.reduceToNat, List.take_nil, Nat.zero_mul, Nat.reduceEqDiff, Nat.reduceAdd, Nat.reduceLT, Nat.reduceLeDiff, Nat.reduceMul, ↓reduceIte, reduceCtorEq]
      refine ⟨hlt, by omega, by omega, onCall.by (spec_l1In_ _ _ _ ⟨rfl, rfl⟩) ?_⟩
      simp only [not_true_eq_false, not_false_eq_true, decide_true, decide_false, Bool.not_true, Bool.not_false, false_implies, true_implies, and_true, true_and, Bool.false_eq_true, Bool.true_eq_false, implies_true, Bool.not_not, Classical.not_not, go_sem, Int.reduceToNat, List.take_nil, Nat.zero_mul, Nat.reduceEqDiff, Nat.reduceAdd, Nat.reduceLT, Nat.reduceLeDiff, Nat.reduceMul, ↓reduceIte, reduceCtorEq]
      refine ⟨fun h1 => ?_, fun h1 => no (hbad fun hh => h1 (by omega)) [_, _]⟩
      obtain ⟨q, hq⟩ := Int.eq_ofNat_of_zero_le h1.1
      have hqS : q < S.length := by omega
      have hhi : hiOf S L[k].T = S[q].Hi := by unfold hiOf; rw [hq, gM_nat hqS]
      rw [hhi] at hbad hgood
      simp only [hq, Int.toNat_natCast, rdM1 hqS, rdJ3 hkM, hm, lenJ, lenM, hsk, hs1, not_true_eq_false, not_false_eq_true, decide_true, decide_false, Bool.not_true, Bool.not_false, false_implies, true_implies, and_true, true_and, Bool.false_eq_true, Bool.true_eq_false, implies_true, Bool.not_not, Classical.not_not, go_sem, Int.reduceToNat, List.take_nil, Nat.zero_mul, Nat.reduceEqDiff, Nat.reduceAdd, Nat.reduceLT, Nat.reduceLeDiff, Nat.reduceMul, ↓reduceIte, reduceCtorEq]
      refine ⟨hlt, by omega, hqS, by omega, onCall.by (spec_l1In_ _ _ _ ⟨rfl, rfl⟩) ?_⟩
      simp only [hs1, lenJ, hsk, not_true_eq_false, not_false_eq_true, decide_true, decide_false, Bool.not_true, Bool.not_false, false_implies, true_implies, and_true, true_and, Bool.false_eq_true, Bool.true_eq_false, implies_true, Bool.not_not, Classical.not_not, go_sem, Int.reduceToNat, List.take_nil, Nat.zero_mul, Nat.reduceEqDiff, Nat.reduceAdd, Nat.reduceLT, Nat.reduceLeDiff, Nat.reduceMul, ↓reduceIte, reduceCtorEq]
      refine ⟨fun h2 => no (hbad fun hh => h2 hh.2) [_, _], fun h2 => ⟨by omega, by omega, by omega, ⟨hlt, hgood ⟨by omega, h2⟩⟩, Wk.pick [0, 1, 2, 3]⟩⟩
    · have ek : k = L.length := by omega
      subst ek
      have hM2 : M = shortL L := by rw [← hM]; simp [shortL]
      subst hM2
      have hps2 : S.length = (plainS S).length := hps.symm
      refine spec_JobsLegal_ (S := plainS S) (L := shortL L) (by omega) (by omega) (Rd.own' rfl hps) (Rd.own' rfl hsk) ?_
      simp only [not_true_eq_false, not_false_eq_true, decide_true, decide_false, Bool.not_true, Bool.not_false, false_implies, true_implies, and_true, true_and, Bool.false_eq_true, Bool.true_eq_false, implies_true, Bool.not_not, Classical.not_not, go_sem, Int.reduceToNat, List.take_nil, Nat.zero_mul, Nat.reduceEqDiff, Nat.reduceAdd, Nat.reduceLT, Nat.reduceLeDiff, Nat.reduceMul, ↓reduceIte, reduceCtorEq]
      refine Fin.pick [0, 1] (.b (decide (jobsLegal (plainS S) (shortL L)))) _ ⟨?_, rfl⟩
      congr 1
      apply decide_eq_decide.2
      exact (legal_short hS fun j hj => by
        obtain ⟨i, hi, rfl⟩ := List.getElem_of_mem hj
        exact hJ i hi hi).symm
theorem spec_MixedLegal_ {S : List MTask} {L : List Job} (hs : S.length ≤ 1048576) (hl : L.length ≤ 1048576) {v u : AV} {σ : List AB} (h : Rd encMT σ v S) (h' : Rd encJob σ u L) {K : AV → List AB → Prop} (hk : K (.b (decide (mixLegal S L))) σ) : CallWp Try.prog n_spec_MixedLegal [v, u] σ K :=
  call_rds _ (rds_cons h.r (rds1 h'.r)) (fun c => [.sl 0 0 S.length (c 0), .sl 1 0 L.length (c 1)]) (fun c => spec_MixedLegal0 S L hs hl (c 0) (c 1)) (fun ν c h => ⟨h.1, h.2.1, trivial⟩) (fun _ => rfl) rfl hk
end Go.Proofs.Ytmphblbpofnpaaa
/- Contracts: mixed criticality: the factor of the deadlines. -/
namespace Go.Proofs.Ytmphblbpofnpaaa
open Go.Abs Go.Ds
set_option linter.unusedSimpArgs false
set_option linter.unusedVariables false
set_option maxRecDepth 20000
set_option maxHeartbeats 2000000
noncomputable def scaleR (S : List MTask) : Option (Int × Int) := if mixOk S then scaleOf S else none
def scaleAV : Option (Int × Int) → AV
  | some p => .tup [.agg [.i .i64 p.1, .i .i64 p.2], .b true]
  | none => .tup [.agg [.i .i64 0, .i .i64 0], .b false]
theorem call_rdsT {P : Program} {f : FuncId} {args : List AV} {σ : List AB} {K : AV → List AB → Prop} (S : List Sl) (hS : ∀ s ∈ S, s.ok σ) (args0 : (Nat → Nat) → List AV) {r : AV} (h : ∀ c, CallWp P f (args0 c) (slBl S) fun x σ' => x = r ∧ σ' = slBl S)
    (ha : ∀ ν c, slArgs ν c 0 S → seesL ν args (args0 c)) (hb : ∀ c, (args0 c).all (below1 S.length) = true) (hf : ∀ N, freshA N r = true) (hsh : ∀ a b, shift a b r = r) (hk : K r σ) : CallWp P f args σ K := by
  refine call_news S hS args0 (fun x τ => x = r ∧ τ = []) (fun c => (h c).mono ?_) ?_ ha hb ?_
  · rintro x σ' _ ⟨rfl, rfl⟩; exact ⟨[], by simp, rfl, rfl⟩
  · rintro x τ ⟨rfl, rfl⟩; exact ⟨rfl, hf _⟩
  · rintro x τ ⟨rfl, rfl⟩; rw [hsh, List.append_nil]; exact hk
theorem uLow_take {S : List MTask} {k : Nat} (h : k < S.length) (H : Int) : uLow (S.take (k + 1)) H = uLow (S.take k) H + if S[k].V = true then 0 else S[k].Lo * (H / S[k].P) := by
  unfold uLow; rw [List.take_succ_eq_append_getElem h, List.foldl_append]; rfl
theorem uVit_take {S : List MTask} {k : Nat} (h : k < S.length) (H : Int) : uVit (S.take (k + 1)) H = uVit (S.take k) H + if S[k].V = true then S[k].Lo * (H / S[k].P) else 0 := by
  unfold uVit; rw [List.take_succ_eq_append_getElem h, List.foldl_append]; rfl
theorem uHigh_take {S : List MTask} {k : Nat} (h : k < S.length) (H : Int) : uHigh (S.take (k + 1)) H = uHigh (S.take k) H + if S[k].V = true then S[k].Hi * (H / S[k].P) else 0 := by
  unfold uHigh; rw [List.take_succ_eq_append_getElem h, List.foldl_append]; rfl
theorem u_term {S : List MTask} (hS : mixOk S) {k : Nat} (h : k < S.length) {H : Int} (hH : 0 ≤ H ∧ H ≤ 27720) : (0 ≤ H / S[k].P ∧ H / S[k].P ≤ 27720) ∧ (0 ≤ S[k].Lo * (H / S[k].P) ∧ S[k].Lo * (H / S[k].P) ≤ 332640) ∧ (0 ≤ S[k].Hi * (H / S[k].P) ∧ S[k].Hi * (H / S[k].P) ≤ 332640) := by
  have hok := hS.2 _ (List.getElem_mem h)
  unfold MTask.ok at hok
  have h1 : 0 ≤ H / S[k].P := Int.ediv_nonneg (by omega) (by omega)
  have h2 : H / S[k].P ≤ H := Int.ediv_le_self _ (by omega)
  refine ⟨⟨h1, by omega⟩, ⟨Int.mul_nonneg (by omega) h1, ?_⟩, Int.mul_nonneg (by omega) h1, ?_⟩
  · exact Int.le_trans (Int.mul_le_mul (show S[k].Lo ≤ 12 by omega) (show H / S[k].P ≤ 27720 by omega) h1 (by omega)) (by omega)
  · exact Int.le_trans (Int.mul_le_mul (show S[k].Hi ≤ 12 by omega) (show H / S[k].P ≤ 27720 by omega) h1 (by omega)) (by omega)
theorem u_bound {S : List MTask} (hS : mixOk S) {H : Int} (hH : 0 ≤ H ∧ H ≤ 27720) : ∀ k : Nat, k ≤ S.length → (0 ≤ uLow (S.take k) H ∧ uLow (S.take k) H ≤ 332640 * k) ∧ (0 ≤ uVit (S.take k) H ∧ uVit (S.take k) H ≤ 332640 * k) ∧ (0 ≤ uHigh (S.take k) H ∧ uHigh (S.take k) H ≤ 332640 * k)
  | 0, _ => by simp [uLow, uVit, uHigh]
  | k + 1, h => by
    have ih := u_bound hS hH k (by omega)
    have ht := u_term hS (show k < S.length by omega) hH
    rw [uLow_take (by omega), uVit_take (by omega), uHigh_take (by omega)]
    split <;> omega
theorem impl_reduced_ {a b : Nat} (ha : 0 < a ∧ a ≤ 1000000000) (hb : b ≤ 1000000000) {σ : List AB} {K : AV → List AB → Prop} (hk : K (.agg [.i .i64 ((a : Int) / (Nat.gcd a b : Nat)), .i .i64 ((b : Int) / (Nat.gcd a b : Nat))]) σ) : CallWp Try.prog n_impl_reduced [.i .i64 a, .i .i64 b] σ K := by
  refine callC_impl_reduced (by simp) fun hC _ => ?_
  have hg : 0 < Nat.gcd a b := Nat.gcd_pos_of_pos_left _ ha.1
  have hg2 : Nat.gcd a b ≤ a := Nat.gcd_le_left _ ha.1
  simp only [c_impl_reduced, List.append_assoc, at_new, at_new0, set_new, set_new0, not_true_eq_false, not_false_eq_true, decide_true, decide_false, Bool.not_true, Bool.not_false, false_implies, true_implies, and_true, true_and, Bool.false_eq_true, Bool.true_eq_false, implies_true, Bool.not_not, Classical.not_not, go_sem, Int.reduceToNat, List.take_nil, Nat.zero_mul, Nat.reduceEqDiff, Nat.reduceAdd, Nat.reduceLT, Nat.reduceLeDiff, Nat.reduceMul, ↓reduceIte, reduceCtorEq]
  refine impl_gcd_ (by omega) (by omega) ?_
  simp only [List.append_assoc, at_new, at_new0, set_new, set_new0, not_true_eq_false, not_false_eq_true, decide_true, decide_false, Bool.not_true, Bool.not_false, false_implies, true_implies, and_true, true_and, Bool.false_eq_true, Bool.true_eq_false, implies_true, Bool.not_not, Classical.not_not, go_sem, Int.reduceToNat, List.take_nil, Nat.zero_mul, Nat.reduceEqDiff, Nat.reduceAdd, Nat.reduceLT, Nat.reduceLeDiff, Nat.reduceMul, ↓reduceIte, reduceCtorEq]
  rw [Int.tdiv_eq_ediv_of_nonneg (by omega), Int.tdiv_eq_ediv_of_nonneg (by omega)]
  have h1 : (a : Int) / (Nat.gcd a b : Nat) ≤ a := Int.ediv_le_self _ (by omega)
  have h2 : 0 ≤ (a : Int) / (Nat.gcd a b : Nat) := Int.ediv_nonneg (by omega) (by omega)
  have h3 : (b : Int) / (Nat.gcd a b : Nat) ≤ b := Int.ediv_le_self _ (by omega)
  have h4 : 0 ≤ (b : Int) / (Nat.gcd a b : Nat) := Int.ediv_nonneg (by omega) (by omega)
  generalize (a : Int) / (Nat.gcd a b : Nat) = x at *
  generalize (b : Int) / (Nat.gcd a b : Nat) = y at *
  repeat' first | omega | (exact Fin.drop hC (Nat.le_refl _) rfl hk) | refine ⟨?_, ?_⟩
theorem impl_DeadlineScale0 (S : List MTask) (hs : S.length ≤ 1048576) (c : Nat) : CallWp Try.prog n_impl_DeadlineScale [.sl 0 0 S.length c] [.ro (encMT.row S)] (fun x σ => x = scaleAV (scaleR S) ∧ σ = [.ro (encMT.row S)]) := by
  refine call_impl_DeadlineScale (by simp) ?_
  simp only [c_impl_DeadlineScale, go_sem, Int.reduceToNat, List.take_nil, Nat.zero_mul, Nat.reduceEqDiff, Nat.reduceAdd, Nat.reduceLT, Nat.reduceLeDiff, Nat.reduceMul, ↓reduceIte, reduceCtorEq]
  refine impl_MixedValid_ (L := S) (by omega) (Rd.own rfl) ?_
  simp only [not_true_eq_false, not_false_eq_true, decide_true, decide_false, Bool.not_true, Bool.not_false, false_implies, true_implies, and_true, true_and, Bool.false_eq_true, Bool.true_eq_false, implies_true, Bool.not_not, Classical.not_not, go_sem, Int.reduceToNat, List.take_nil, Nat.zero_mul, Nat.reduceEqDiff, Nat.reduceAdd, Nat.reduceLT, Nat.reduceLeDiff, Nat.reduceMul, ↓reduceIte, reduceCtorEq]
  refine ⟨fun hS => ?_, fun hS => ?_⟩
  · have e : scaleR S = none := if_neg hS
    rw [e]
    exact Fin.pick [0] (.tup [.agg [.i .i64 0, .i .i64 0], .b false]) _ ⟨rfl, rfl⟩
  have e : scaleR S = scaleOf S := if_pos hS
  rw [e]
  have hH : (0 : Int) ≤ 27720 ∧ (27720 : Int) ≤ 27720 := by omega
  refine loop_count S.length (fun k => ⟨[(2, .p 1 0), (4, .i .i64 (uLow (S.take k) 27720)), (5, .i .i64 (uVit (S.take k) 27720)), (6, .i .i64 (uHigh (S.take k) 27720)), (15, .sl 0 0 S.length c), (16, .i .i64 S.length), (17, .i .i64 k)], [.ro (encMT.row S), .rw ty_impl_Fraction [.i .i64 0, .i .i64 0] 2]⟩)
    (fun _ => True) trivial (by simp only [List.take_zero, uLow, uVit, uHigh, List.foldl_nil]; exact Wk.pick [0, 1]) fun k hk _ => ?_
  have h5 := hS.1
  have hb := u_bound hS hH k hk
  simp only [l0_impl_DeadlineScale, not_true_eq_false, not_false_eq_true, decide_true, decide_false, Bool.not_true, Bool.not_false, false_implies, true_implies, and_true, true_and, Bool.false_eq_true, Bool.true_eq_false, implies_true, Bool.not_not, Classical.not_not, go_sem, Int.reduceToNat, List.take_nil, Nat.zero_mul, Nat.reduceEqDiff, Nat.reduceAdd, Nat.reduceLT, Nat.reduceLeDiff, Nat.reduceMul, ↓reduceIte, reduceCtorEq]
  refine ⟨fun hlt => ?_, fun hge => ?_⟩
  · have ht := u_term hS hlt hH
    have s1 := uLow_take hlt 27720
    have s2 := uVit_take hlt 27720
    have s3 := uHigh_take hlt 27720
    have hok := hS.2 _ (List.getElem_mem hlt)
    unfold MTask.ok at hok
    simp only [winM hlt, encMf, lenM, not_true_eq_false, not_false_eq_true, decide_true, decide_false, Bool.not_true, Bool.not_false, false_implies, true_implies, and_true, true_and, Bool.false_eq_true, Bool.true_eq_false, implies_true, Bool.not_not, Classical.not_not, go_sem, Int.reduceToNat, List.take_nil, Nat.zero_mul, Nat.reduceEqDiff, Nat.reduceAdd, Nat.reduceLT, Nat.reduceLeDiff, Nat.reduceMul, ↓reduceIte, reduceCtorEq]
    rw [Int.tdiv_eq_ediv_of_nonneg (by omega)]
    cases hV : S[k].V
    · rw [hV] at s1 s2 s3
      simp only [not_true_eq_false, not_false_eq_true, decide_true, decide_false, Bool.not_true, Bool.not_false, false_implies, true_implies, and_true, true_and, Bool.false_eq_true, Bool.true_eq_false, implies_true, Bool.not_not, Classical.not_not, go_sem, Int.reduceToNat, List.take_nil, Nat.zero_mul, Nat.reduceEqDiff, Nat.reduceAdd, Nat.reduceLT, Nat.reduceLeDiff, Nat.reduceMul, ↓reduceIte, reduceCtorEq, if_false, Int.add_zero] at s1 s2 s3 ⊢
      rw [s1, s2, s3, Int.mul_comm S[k].Lo]
      rw [Int.mul_comm S[k].Lo] at ht
      generalize 27720 / S[k].P = d at *
      generalize d * S[k].Lo = z at *
      repeat' first | omega | exact Wk.pick [0, 1] | refine ⟨?_, ?_⟩
    · rw [hV] at s1 s2 s3
      simp only [not_true_eq_false, not_false_eq_true, decide_true, decide_false, Bool.not_true, Bool.not_false, false_implies, true_implies, and_true, true_and, Bool.false_eq_true, Bool.true_eq_false, implies_true, Bool.not_not, Classical.not_not, go_sem, Int.reduceToNat, List.take_nil, Nat.zero_mul, Nat.reduceEqDiff, Nat.reduceAdd, Nat.reduceLT, Nat.reduceLeDiff, Nat.reduceMul, ↓reduceIte, reduceCtorEq, if_true, Int.add_zero] at s1 s2 s3 ⊢
      rw [s1, s2, s3, Int.mul_comm S[k].Lo, Int.mul_comm S[k].Hi]
      rw [Int.mul_comm S[k].Lo, Int.mul_comm S[k].Hi] at ht
      generalize 27720 / S[k].P = d at *
      generalize d * S[k].Lo = z at *
      generalize d * S[k].Hi = z' at *
      repeat' first | omega | exact Wk.pick [0, 1] | refine ⟨?_, ?_⟩
  · have ek : k = S.length := by omega
    subst ek
    rw [List.take_length] at hb ⊢
    unfold scaleOf scaleAt
    generalize uLow S 27720 = a at *
    generalize uVit S 27720 = b at *
    generalize uHigh S 27720 = cc at *
    have m1 : 0 ≤ b * a ∧ b * a ≤ 1663200 * 1663200 := ⟨Int.mul_nonneg (by omega) (by omega), Int.mul_le_mul (by omega) (by omega) (by omega) (by omega)⟩
    have m2 : -(1663200 * 1663200) ≤ cc * (27720 - a) ∧ cc * (27720 - a) ≤ 1663200 * 27720 := by
      constructor
      · have := Int.mul_le_mul_of_nonneg_left (show -1663200 ≤ 27720 - a by omega) (show 0 ≤ cc by omega)
        have h2 := Int.mul_le_mul_of_nonneg_right (show cc ≤ 1663200 by omega) (show (0 : Int) ≤ 1663200 by omega)
        rw [Int.mul_neg] at this; omega
      · have := Int.mul_le_mul_of_nonneg_left (show 27720 - a ≤ 27720 by omega) (show 0 ≤ cc by omega)
        omega
    have hno : ¬ a + cc ≤ 27720 → ¬ (a < 27720 ∧ 0 < b ∧ b ≤ 27720 - a ∧ b * a + cc * (27720 - a) ≤ 27720 * (27720 - a)) → Fin 1 [.ro (encMT.row S), .rw ty_impl_Fraction [.i .i64 0, .i .i64 0] 2] (.tup [.agg [.i .i64 0, .i .i64 0], .b false]) (fun x σ => x = scaleAV (if a + cc ≤ 27720 then some (1, 1) else if a < 27720 ∧ 0 < b ∧ b ≤ 27720 - a ∧ b * a + cc * (27720 - a) ≤ 27720 * (27720 - a) then some (b / (Nat.gcd b.toNat (27720 - a).toNat : Nat), (27720 - a) / (Nat.gcd b.toNat (27720 - a).toNat : Nat)) else none) ∧ σ = [.ro (encMT.row S)]) := fun h1 h2 => by
      rw [if_neg h1, if_neg h2]
      exact Fin.pick [0] (.tup [.agg [.i .i64 0, .i .i64 0], .b false]) _ ⟨rfl, rfl⟩
    refine ⟨by omega, by omega, fun h1 => ?_, fun h1 => ⟨fun h2 => ⟨fun h3 => ⟨fun h4 => ⟨by omega, by omega, by omega, by omega, fun h5 => ?_, fun h5 => hno h1 (fun hh => h5 hh.2.2.2)⟩, fun h4 => hno h1 (fun hh => h4 hh.2.2.1)⟩, fun h3 => hno h1 (fun hh => h3 hh.2.1)⟩, fun h2 => hno h1 (fun hh => h2 (by omega))⟩⟩
    · rw [if_pos h1]
      exact Fin.pick [0] (.tup [.agg [.i .i64 1, .i .i64 1], .b true]) _ ⟨rfl, rfl⟩
    · rw [if_neg h1, if_pos ⟨by omega, h3, h4, h5⟩]
      obtain ⟨bn, rfl⟩ := Int.eq_ofNat_of_zero_le (show 0 ≤ b by omega)
      obtain ⟨l, hl⟩ := Int.eq_ofNat_of_zero_le (show 0 ≤ 27720 - a by omega)
      have hl2 : (l : Int) ≤ 27720 := by omega
      rw [hl] at *
      refine impl_reduced_ (by omega) (by omega) ?_
      simp only [Int.toNat_natCast, not_true_eq_false, not_false_eq_true, decide_true, decide_false, Bool.not_true, Bool.not_false, false_implies, true_implies, and_true, true_and, Bool.false_eq_true, Bool.true_eq_false, implies_true, Bool.not_not, Classical.not_not, go_sem, Int.reduceToNat, List.take_nil, Nat.zero_mul, Nat.reduceEqDiff, Nat.reduceAdd, Nat.reduceLT, Nat.reduceLeDiff, Nat.reduceMul, ↓reduceIte, reduceCtorEq]
      exact Fin.pick [0] (.tup [.agg [.i .i64 ((bn : Int) / (Nat.gcd bn l : Nat)), .i .i64 ((l : Int) / (Nat.gcd bn l : Nat))], .b true]) _ ⟨rfl, rfl⟩
theorem impl_DeadlineScale_ {S : List MTask} (hs : S.length ≤ 1048576) {v : AV} {σ : List AB} (h : Rd encMT σ v S) {K : AV → List AB → Prop} (hk : K (scaleAV (scaleR S)) σ) : CallWp Try.prog n_impl_DeadlineScale [v] σ K :=
  call_rdsT _ (rds1 h.r) (fun c => [.sl 0 0 S.length (c 0)]) (fun c => impl_DeadlineScale0 S hs (c 0)) (fun ν c h => ⟨h.1, trivial⟩) (fun _ => rfl) (by intro N; unfold scaleAV; split <;> rfl) (by intro a b; unfold scaleAV; split <;> rfl) hk
theorem spec_l15Sums0 (S : List MTask) (hS : mixOk S) (c : Nat) : CallWp Try.prog n_spec_l15Sums [.sl 0 0 S.length c] [.ro (encMT.row S)] (fun x σ => x = .tup [.i .i64 (uLow S (hyperM S)), .i .i64 (uVit S (hyperM S)), .i .i64 (uHigh S (hyperM S)), .i .i64 (hyperM S : Nat)] ∧ σ = [.ro (encMT.row S)]) := by
  have h5 := hS.1
  have hP := plain_ok hS
  have hpl : (plainS S).length = S.length := by simp [plainS]
  refine call_spec_l15Sums (by simp) ?_
  simp only [c_spec_l15Sums, not_true_eq_false, not_false_eq_true, decide_true, decide_false, Bool.not_true, Bool.not_false, false_implies, true_implies, and_true, true_and, Bool.false_eq_true, Bool.true_eq_false, implies_true, Bool.not_not, Classical.not_not, go_sem, Int.reduceToNat, List.take_nil, Nat.zero_mul, Nat.reduceEqDiff, Nat.reduceAdd, Nat.reduceLT, Nat.reduceLeDiff, Nat.reduceMul, ↓reduceIte, reduceCtorEq]
  refine loop_count S.length (fun k => ⟨[(0, .sl 0 0 S.length c), (6, .i .i64 (hyperN ((plainS S).take k) : Nat)), (7, .i .i64 k)], [.ro (encMT.row S)]⟩)
    (fun _ => True) trivial (by simp only [List.take_zero, show hyperN [] = 1 from rfl]; exact Wk.pick [0]) fun k hk _ => ?_
  simp only [l1_spec_l15Sums, not_true_eq_false, not_false_eq_true, decide_true, decide_false, Bool.not_true, Bool.not_false, false_implies, true_implies, and_true, true_and, Bool.false_eq_true, Bool.true_eq_false, implies_true, Bool.not_not, Classical.not_not, go_sem, Int.reduceToNat, List.take_nil, Nat.zero_mul, Nat.reduceEqDiff, Nat.reduceAdd, Nat.reduceLT, Nat.reduceLeDiff, Nat.reduceMul, ↓reduceIte, reduceCtorEq]
  refine ⟨fun hlt => ?_, fun hge => ?_⟩
  · have hok := hS.2 _ (List.getElem_mem hlt)
    unfold MTask.ok at hok
    have hb := hyperN_bound hP (show k ≤ (plainS S).length by omega)
    have hn := hyperN_take (S := plainS S) (k := k) (by omega)
    have hpk : (plainS S)[k]'(by omega) = ⟨1, S[k].P, S[k].P⟩ := by simp [plainS]
    rw [hpk] at hn
    obtain ⟨p, hp⟩ := Int.eq_ofNat_of_zero_le (show 0 ≤ S[k].P by omega)
    simp only at hn
    rw [hp, Int.toNat_natCast] at hn
    have hL : hyperN ((plainS S).take k) / Nat.gcd (hyperN ((plainS S).take k)) p * p = Nat.lcm (hyperN ((plainS S).take k)) p := by
      unfold Nat.lcm
      rw [Nat.div_mul_right_comm (Nat.gcd_dvd_left _ _)]
    have hg : 0 < Nat.gcd (hyperN ((plainS S).take k)) p := Nat.gcd_pos_of_pos_right _ (by omega)
    have hb2 := hyperN_bound hP (show k + 1 ≤ (plainS S).length by omega)
    simp only [rdM2 hlt, lenM, hp, not_true_eq_false, not_false_eq_true, decide_true, decide_false, Bool.not_true, Bool.not_false, false_implies, true_implies, and_true, true_and, Bool.false_eq_true, Bool.true_eq_false, implies_true, Bool.not_not, Classical.not_not, go_sem, Int.reduceToNat, List.take_nil, Nat.zero_mul, Nat.reduceEqDiff, Nat.reduceAdd, Nat.reduceLT, Nat.reduceLeDiff, Nat.reduceMul, ↓reduceIte, reduceCtorEq]
    refine ⟨hlt, by omega, onCall.by (spec_l1Gcd_ (by omega) (by omega) ⟨rfl, rfl⟩) ?_⟩
    simp only [rdM2 hlt, lenM, hp, not_true_eq_false, not_false_eq_true, decide_true, decide_false, Bool.not_true, Bool.not_false, false_implies, true_implies, and_true, true_and, Bool.false_eq_true, Bool.true_eq_false, implies_true, Bool.not_not, Classical.not_not, go_sem, Int.reduceToNat, List.take_nil, Nat.zero_mul, Nat.reduceEqDiff, Nat.reduceAdd, Nat.reduceLT, Nat.reduceLeDiff, Nat.reduceMul, ↓reduceIte, reduceCtorEq]
    have hqi : (hyperN ((plainS S).take k) : Int) / (Nat.gcd (hyperN ((plainS S).take k)) p : Nat) = ((hyperN ((plainS S).take k) / Nat.gcd (hyperN ((plainS S).take k)) p : Nat) : Int) := (Int.natCast_ediv ..).symm
    rw [Int.tdiv_eq_ediv_of_nonneg (by omega), hqi, ← Int.natCast_mul, hL, ← hn]
    have hq1 : (hyperN ((plainS S).take k) : Int) / (Nat.gcd (hyperN ((plainS S).take k)) p : Nat) ≤ hyperN ((plainS S).take k) := Int.ediv_le_self _ (by omega)
    have hq2 : 0 ≤ (hyperN ((plainS S).take k) : Int) / (Nat.gcd (hyperN ((plainS S).take k)) p : Nat) := Int.ediv_nonneg (by omega) (by omega)
    exact ⟨by omega, by omega, hlt, by omega, by omega, by omega, hlt, Wk.pick [0]⟩
  · have ek : k = S.length := by omega
    subst ek
    have hHN : hyperN ((plainS S).take S.length) = hyperM S := by unfold hyperM; rw [List.take_of_length_le (by omega)]
    rw [hHN]
    have hHb := hyperN_bound hP (Nat.le_refl (plainS S).length)
    rw [List.take_length] at hHb
    change 1 ≤ hyperM S ∧ hyperM S ≤ 27720 at hHb
    have hH : (0 : Int) ≤ hyperM S ∧ (hyperM S : Int) ≤ 27720 := by omega
    generalize hyperM S = H at *
    refine loop_count S.length (fun k => ⟨[(0, .sl 0 0 S.length c), (6, .i .i64 (H : Nat)), (8, .i .i64 (uLow (S.take k) H)), (9, .i .i64 (uVit (S.take k) H)), (10, .i .i64 (uHigh (S.take k) H)), (11, .i .i64 k)], [.ro (encMT.row S)]⟩)
      (fun _ => True) trivial (by simp only [List.take_zero, uLow, uVit, uHigh, List.foldl_nil]; exact Wk.pick [0]) fun k hk _ => ?_
    have hb := u_bound hS hH k hk
    simp only [l0_spec_l15Sums, not_true_eq_false, not_false_eq_true, decide_true, decide_false, Bool.not_true, Bool.not_false, false_implies, true_implies, and_true, true_and, Bool.false_eq_true, Bool.true_eq_false, implies_true, Bool.not_not, Classical.not_not, go_sem, Int.reduceToNat, List.take_nil, Nat.zero_mul, Nat.reduceEqDiff, Nat.reduceAdd, Nat.reduceLT, Nat.reduceLeDiff, Nat.reduceMul, ↓reduceIte, reduceCtorEq]
    refine ⟨fun hlt => ?_, fun hge => ?_⟩
    · have ht := u_term hS hlt hH
      have s1 := uLow_take hlt (H : Int)
      have s2 := uVit_take hlt (H : Int)
      have s3 := uHigh_take hlt (H : Int)
      have hok := hS.2 _ (List.getElem_mem hlt)
      unfold MTask.ok at hok
      simp only [rdM2 hlt, rdM3 hlt, rdM0 hlt, rdM1 hlt, lenM, not_true_eq_false, not_false_eq_true, decide_true, decide_false, Bool.not_true, Bool.not_false, false_implies, true_implies, and_true, true_and, Bool.false_eq_true, Bool.true_eq_false, implies_true, Bool.not_not, Classical.not_not, go_sem, Int.reduceToNat, List.take_nil, Nat.zero_mul, Nat.reduceEqDiff, Nat.reduceAdd, Nat.reduceLT, Nat.reduceLeDiff, Nat.reduceMul, ↓reduceIte, reduceCtorEq]
      rw [Int.tdiv_eq_ediv_of_nonneg (by omega)]
      cases hV : S[k].V
      · rw [hV] at s1 s2 s3
        simp only [not_true_eq_false, not_false_eq_true, decide_true, decide_false, Bool.not_true, Bool.not_false, false_implies, true_implies, and_true, true_and, Bool.false_eq_true, Bool.true_eq_false, implies_true, Bool.not_not, Classical.not_not, go_sem, Int.reduceToNat, List.take_nil, Nat.zero_mul, Nat.reduceEqDiff, Nat.reduceAdd, Nat.reduceLT, Nat.reduceLeDiff, Nat.reduceMul, ↓reduceIte, reduceCtorEq, if_false, Int.add_zero] at s1 s2 s3 ⊢
        rw [s1, s2, s3]
        generalize (H : Int) / S[k].P = d at *
        generalize S[k].Lo * d = z at *
        repeat' first | omega | exact Wk.pick [0] | refine ⟨?_, ?_⟩
      · rw [hV] at s1 s2 s3
        simp only [not_true_eq_false, not_false_eq_true, decide_true, decide_false, Bool.not_true, Bool.not_false, false_implies, true_implies, and_true, true_and, Bool.false_eq_true, Bool.true_eq_false, implies_true, Bool.not_not, Classical.not_not, go_sem, Int.reduceToNat, List.take_nil, Nat.zero_mul, Nat.reduceEqDiff, Nat.reduceAdd, Nat.reduceLT, Nat.reduceLeDiff, Nat.reduceMul, ↓reduceIte, reduceCtorEq, if_true, Int.add_zero] at s1 s2 s3 ⊢
        rw [s1, s2, s3]
        generalize (H : Int) / S[k].P = d at *
        generalize S[k].Lo * d = z at *
        generalize S[k].Hi * d = z' at *
        repeat' first | omega | exact Wk.pick [0] | refine ⟨?_, ?_⟩
    · have ek : k = S.length := by omega
      subst ek
      rw [List.take_length]
      exact Fin.plain ⟨rfl, rfl⟩
theorem spec_l15Sums_ {S : List MTask} (hS : mixOk S) {v : AV} {σ : List AB} (h : Rd encMT σ v S) {K : AV → List AB → Prop} (hk : K (.tup [.i .i64 (uLow S (hyperM S)), .i .i64 (uVit S (hyperM S)), .i .i64 (uHigh S (hyperM S)), .i .i64 (hyperM S : Nat)]) σ) : CallWp Try.prog n_spec_l15Sums [v] σ K :=
  call_rdsT _ (rds1 h.r) (fun c => [.sl 0 0 S.length (c 0)]) (fun c => spec_l15Sums0 S hS (c 0)) (fun ν c h => ⟨h.1, trivial⟩) (fun _ => rfl) (fun _ => rfl) (fun _ _ => rfl) hk
theorem spec_DeadlineScale0 (S : List MTask) (hs : S.length ≤ 1048576) (c : Nat) : CallWp Try.prog n_spec_DeadlineScale [.sl 0 0 S.length c] [.ro (encMT.row S)] (fun x σ => x = scaleAV (scaleR S) ∧ σ = [.ro (encMT.row S)]) := by
  refine call_spec_DeadlineScale (by simp) ?_
  simp only [c_spec_DeadlineScale, go_sem, Int.reduceToNat, List.take_nil, Nat.zero_mul, Nat.reduceEqDiff, Nat.reduceAdd, Nat.reduceLT, Nat.reduceLeDiff, Nat.reduceMul, ↓reduceIte, reduceCtorEq]
  refine spec_MixedValid_ (L := S) (by omega) (Rd.own rfl) ?_
  simp only [not_true_eq_false, not_false_eq_true, decide_true, decide_false, Bool.not_true, Bool.not_false, false_implies, true_implies, and_true, true_and, Bool.false_eq_true, Bool.true_eq_false, implies_true, Bool.not_not, Classical.not_not, go_sem, Int.reduceToNat, List.take_nil, Nat.zero_mul, Nat.reduceEqDiff, Nat.reduceAdd, Nat.reduceLT, Nat.reduceLeDiff, Nat.reduceMul, ↓reduceIte, reduceCtorEq]
  refine ⟨fun hS => ?_, fun hS => ?_⟩
  · have e : scaleR S = none := if_neg hS
    rw [e]
    exact Fin.pick [0] (.tup [.agg [.i .i64 0, .i .i64 0], .b false]) _ ⟨rfl, rfl⟩
  have e : scaleR S = scaleOf S := if_pos hS
  rw [e, ← scale_lcm hS]
  refine spec_l15Sums_ hS (Rd.own rfl) ?_
  simp only [not_true_eq_false, not_false_eq_true, decide_true, decide_false, Bool.not_true, Bool.not_false, false_implies, true_implies, and_true, true_and, Bool.false_eq_true, Bool.true_eq_false, implies_true, Bool.not_not, Classical.not_not, go_sem, Int.reduceToNat, List.take_nil, Nat.zero_mul, Nat.reduceEqDiff, Nat.reduceAdd, Nat.reduceLT, Nat.reduceLeDiff, Nat.reduceMul, ↓reduceIte, reduceCtorEq]
  have hP := plain_ok hS
  have hHb := hyperN_bound hP (Nat.le_refl (plainS S).length)
  rw [List.take_length] at hHb
  change 1 ≤ hyperM S ∧ hyperM S ≤ 27720 at hHb
  have h5 := hS.1
  have hb := u_bound hS (H := hyperM S) (by omega) S.length (Nat.le_refl _)
  rw [List.take_length] at hb
  generalize uLow S (hyperM S) = a at *
  generalize uVit S (hyperM S) = b at *
  generalize uHigh S (hyperM S) = cc at *
  generalize hyperM S = H at *
  unfold scaleAt
  have m1 : 0 ≤ b * a ∧ b * a ≤ 1663200 * 1663200 := ⟨Int.mul_nonneg (by omega) (by omega), Int.mul_le_mul (by omega) (by omega) (by omega) (by omega)⟩
  have m2 : -(1663200 * 1663200) ≤ cc * (H - a) ∧ cc * (H - a) ≤ 1663200 * 27720 := by
    constructor
    · have := Int.mul_le_mul_of_nonneg_left (show -1663200 ≤ (H : Int) - a by omega) (show 0 ≤ cc by omega)
      rw [Int.mul_neg] at this; omega
    · have := Int.mul_le_mul_of_nonneg_left (show (H : Int) - a ≤ 27720 by omega) (show 0 ≤ cc by omega)
      omega
  have m3 : a ≤ H → 0 ≤ (H : Int) * (H - a) ∧ (H : Int) * (H - a) ≤ 27720 * 27720 := fun h => ⟨Int.mul_nonneg (by omega) (by omega), Int.mul_le_mul (by omega) (by omega) (by omega) (by omega)⟩
  have hno : ¬ a + cc ≤ H → ¬ (a < H ∧ 0 < b ∧ b ≤ H - a ∧ b * a + cc * (H - a) ≤ H * (H - a)) → Fin 1 [.ro (encMT.row S), .rw ty_impl_Fraction [.i .i64 0, .i .i64 0] 2] (.tup [.agg [.i .i64 0, .i .i64 0], .b false]) (fun x σ => x = scaleAV (if a + cc ≤ H then some (1, 1) else if a < H ∧ 0 < b ∧ b ≤ H - a ∧ b * a + cc * (H - a) ≤ H * (H - a) then some (b / (Nat.gcd b.toNat ((H : Int) - a).toNat : Nat), (H - a) / (Nat.gcd b.toNat ((H : Int) - a).toNat : Nat)) else none) ∧ σ = [.ro (encMT.row S)]) := fun h1 h2 => by
    rw [if_neg h1, if_neg h2]
    exact Fin.pick [0] (.tup [.agg [.i .i64 0, .i .i64 0], .b false]) _ ⟨rfl, rfl⟩
  refine ⟨by omega, fun h1 => ?_, fun h1 => ⟨fun h2 => ⟨fun h3 => ⟨by omega, fun h4 => ?_, fun h4 => hno h1 (fun hh => by omega)⟩, fun h3 => hno h1 (fun hh => by omega)⟩, fun h2 => hno h1 (fun hh => by omega)⟩⟩
  · rw [if_pos h1]
    exact Fin.pick [0] (.tup [.agg [.i .i64 1, .i .i64 1], .b true]) _ ⟨rfl, rfl⟩
  · have m3 := m3 (by omega)
    refine ⟨by omega, by omega, by omega, by omega, by omega, by omega, fun h5 => hno h1 (fun hh => by omega), fun h5 => ⟨by omega, ?_⟩⟩
    rw [if_neg h1, if_pos ⟨by omega, by omega, by omega, by omega⟩]
    obtain ⟨bn, rfl⟩ := Int.eq_ofNat_of_zero_le (show 0 ≤ b by omega)
    obtain ⟨l, hl⟩ := Int.eq_ofNat_of_zero_le (show 0 ≤ (H : Int) - a by omega)
    have hl2 : (l : Int) ≤ 27720 := by omega
    simp only [hl, Int.toNat_natCast]
    refine spec_l1Gcd_ (by omega) (by omega) ?_
    rw [Nat.gcd_comm l bn]
    have hg : 0 < Nat.gcd bn l := Nat.gcd_pos_of_pos_left _ (by omega)
    simp only [hl, Int.toNat_natCast, not_true_eq_false, not_false_eq_true, decide_true, decide_false, Bool.not_true, Bool.not_false, false_implies, true_implies, and_true, true_and, Bool.false_eq_true, Bool.true_eq_false, implies_true, Bool.not_not, Classical.not_not, go_sem, Int.reduceToNat, List.take_nil, Nat.zero_mul, Nat.reduceEqDiff, Nat.reduceAdd, Nat.reduceLT, Nat.reduceLeDiff, Nat.reduceMul, ↓reduceIte, reduceCtorEq]
    rw [Int.tdiv_eq_ediv_of_nonneg (by omega), Int.tdiv_eq_ediv_of_nonneg (by omega)]
    have g1 : (bn : Int) / (Nat.gcd bn l : Nat) ≤ bn := Int.ediv_le_self _ (by omega)
    have g2 : 0 ≤ (bn : Int) / (Nat.gcd bn l : Nat) := Int.ediv_nonneg (by omega) (by omega)
    have g3 : (l : Int) / (Nat.gcd bn l : Nat) ≤ l := Int.ediv_le_self _ (by omega)
    have g4 : 0 ≤ (l : Int) / (Nat.gcd bn l : Nat) := Int.ediv_nonneg (by omega) (by omega)
    generalize (bn : Int) / (Nat.gcd bn l : Nat) = x at *
    generalize (l : Int) / (Nat.gcd bn l : Nat) = y at *
    repeat' first | omega | exact Fin.pick [0] (.tup [.agg [.i .i64 x, .i .i64 y], .b true]) _ ⟨rfl, rfl⟩ | refine ⟨?_, ?_⟩
theorem spec_DeadlineScale_ {S : List MTask} (hs : S.length ≤ 1048576) {v : AV} {σ : List AB} (h : Rd encMT σ v S) {K : AV → List AB → Prop} (hk : K (scaleAV (scaleR S)) σ) : CallWp Try.prog n_spec_DeadlineScale [v] σ K :=
  call_rdsT _ (rds1 h.r) (fun c => [.sl 0 0 S.length (c 0)]) (fun c => spec_DeadlineScale0 S hs (c 0)) (fun ν c h => ⟨h.1, trivial⟩) (fun _ => rfl) (by intro N; unfold scaleAV; split <;> rfl) (by intro a b; unfold scaleAV; split <;> rfl) hk
end Go.Proofs.Ytmphblbpofnpaaa
/- Contracts: mixed criticality: the picker of the program. -/
namespace Go.Proofs.Ytmphblbpofnpaaa
open Go.Abs Go.Ds
set_option linter.unusedSimpArgs false
set_option linter.unusedVariables false
set_option maxRecDepth 20000
set_option maxHeartbeats 2000000
def cellsM (ns len c : Nat) (nu de : Int) (st : MSt) : List AV := [.sl ns 0 len c, .i .i64 nu, .i .i64 de, .b st.high, .i .i64 st.frm, .i .i64 st.first]
/-- Block b is the state of a mixed system. -/
structure MixAt (σ : List AB) (b ns c : Nat) (S : List MTask) (nu de : Int) (st : MSt) : Prop where
  at_ : σ[b]? = some (.rw ty_impl_mixed (cellsM ns S.length c nu de st) 6)
  set_ : cellsOf σ ns = some (encMT.row S)
theorem MixAt.cells {σ : List AB} {b ns c : Nat} {S : List MTask} {nu de : Int} {st : MSt} (h : MixAt σ b ns c S nu de st) : cellsOf σ b = some (cellsM ns S.length c nu de st) := by simp [cellsOf, h.at_]
theorem MixAt.app {σ : List AB} {b ns c : Nat} {S : List MTask} {nu de : Int} {st : MSt} (h : MixAt σ b ns c S nu de st) (τ : List AB) : MixAt (σ ++ τ) b ns c S nu de st := ⟨at_old h.at_ τ, cells_old h.set_ τ⟩
theorem cells_set {σ : List AB} {b n : Nat} (B : AB) (h : n ≠ b) : cellsOf (σ.set b B) n = cellsOf σ n := by
  unfold cellsOf
  rw [List.getElem?_set_ne (fun h' => h h'.symm)]
theorem MixAt.ne {σ : List AB} {b ns c : Nat} {S : List MTask} {nu de : Int} {st : MSt} (h : MixAt σ b ns c S nu de st) {α : Type} {E : Enc α} {L : List α} {j : Nat} (hj : cellsOf σ j = some (E.row L)) : j ≠ b := by
  rintro rfl
  rw [h.cells] at hj
  have := E.row_flat L
  rw [← Option.some.inj hj] at this
  simp [cellsM, Abs.flat] at this
theorem MixAt.put {σ : List AB} {b ns c : Nat} {S : List MTask} {nu de : Int} {st : MSt} (h : MixAt σ b ns c S nu de st) (st' : MSt) : MixAt (σ.set b (.rw ty_impl_mixed (cellsM ns S.length c nu de st') 6)) b ns c S nu de st' := by
  have hb := (List.getElem?_eq_some_iff.1 h.at_).1
  exact ⟨by rw [List.getElem?_set_self hb], by rw [cells_set _ (h.ne h.set_)]; exact h.set_⟩
theorem MixAt.mach {σ : List AB} {b ns c : Nat} {S : List MTask} {nu de : Int} {st : MSt} (h : MixAt σ b ns c S nu de st) (B : AB) {m : Nat} {L : List Job} {done : List Int} {now : Nat} (hm : Mach σ m L done now) : Mach (σ.set b B) m L done now := by
  obtain ⟨⟨j, c1, d, c2, h1, h2, h3⟩, h4⟩ := hm
  have hmb : m ≠ b := by
    rintro rfl
    rw [h.cells] at h1
    simp [cellsM] at h1
  exact ⟨⟨j, c1, d, c2, by rw [cells_set _ hmb]; exact h1, by rw [cells_set _ (h.ne h2)]; exact h2, by rw [cells_set _ (h.ne h3)]; exact h3⟩, h4⟩
theorem MixAt.self {σ : List AB} {b ns c : Nat} {S : List MTask} {nu de : Int} {st : MSt} (h : MixAt σ b ns c S nu de st) : σ.set b (.rw ty_impl_mixed (cellsM ns S.length c nu de st) 6) = σ := by
  apply List.ext_getElem?
  intro i
  rw [List.getElem?_set]
  split
  · rename_i e; subst e
    split
    · exact h.at_.symm
    · rename_i h1; exact absurd (List.getElem?_eq_some_iff.1 h.at_).1 h1
  · rfl
theorem MixAt.closed {σ : List AB} {b ns c : Nat} {S : List MTask} {nu de : Int} {st : MSt} (h : MixAt σ b ns c S nu de st) (hC : Closed σ) (st' : MSt) : Closed (σ.set b (.rw ty_impl_mixed (cellsM ns S.length c nu de st') 6)) := by
  intro n B hn
  rw [List.length_set]
  rw [List.getElem?_set] at hn
  split at hn
  · split at hn
    · obtain rfl := Option.some.inj hn
      have := cells_lt h.set_
      simp [Go.Abs.cellsIn, cellsM, Go.Abs.below]; exact this
    · cases hn
  · exact hC n B hn
section
variable {σ : List AB} {b ns c m : Nat} {S : List MTask} {nu de : Int} {st : MSt} {L : List Job} {done : List Int} {now : Nat} {K : AV → List AB → Prop}
theorem impl_mixed_vital_ (hM : MixAt σ b ns c S nu de st) (hm : Mach σ m L done now) (hT : ∀ j ∈ L, 0 ≤ j.T ∧ j.T < S.length) (i : Nat) (hi : i < L.length) (hk : K (.b (vitJ S L i)) σ) : CallWp Try.prog n_impl_mixed_vital [.p b 0, .p m 0, .i .i64 i] σ K := by
  obtain ⟨⟨j, c1, d, c2, e1, e2, e3⟩, e4⟩ := hm
  have hTi := hT _ (List.getElem_mem hi)
  obtain ⟨q, hq⟩ := Int.eq_ofNat_of_zero_le hTi.1
  have hqS : q < S.length := by omega
  have hv : vitJ S L i = S[q].V := by unfold vitJ; rw [show L.getD i default = L[i] by simp [List.getD_eq_getElem?_getD, hi], hq, gM_nat hqS]
  rw [hv] at hk
  refine call_impl_mixed_vital (by simp) ?_
  simp only [c_impl_mixed_vital, onC_of hM.cells, onC_of hM.set_, onC_of e1, onC_of e2, cellsM, rdJ0 hi, hq, Int.toNat_natCast, rdM3 hqS, lenJ, lenM, not_true_eq_false, not_false_eq_true, decide_true, decide_false, Bool.not_true, Bool.not_false, false_implies, true_implies, and_true, true_and, Bool.false_eq_true, Bool.true_eq_false, implies_true, Bool.not_not, Classical.not_not, go_sem, Int.reduceToNat, List.take_nil, Nat.zero_mul, Nat.reduceEqDiff, Nat.reduceAdd, Nat.reduceLT, Nat.reduceLeDiff, Nat.reduceMul, ↓reduceIte, reduceCtorEq]
  exact ⟨by omega, by omega, by omega, by omega, Fin.plain hk⟩
theorem impl_mixed_pick_1_ {x y : Nat} (hx : cellsOf σ x = some [.p b 0]) (hy : cellsOf σ y = some [.p m 0]) (hM : MixAt σ b ns c S nu de st) (hm : Mach σ m L done now) (hT : ∀ j ∈ L, 0 ≤ j.T ∧ j.T < S.length) (i : Nat) (hi : i < L.length) (hk : K (.b (vitJ S L i)) σ) :
    CallWp Try.prog n_impl_mixed_pick_1 [.i .i64 i, .p x 0, .p y 0] σ K := by
  refine call_impl_mixed_pick_1 (by simp) ?_
  simp only [c_impl_mixed_pick_1, onC_of hx, onC_of hy, not_true_eq_false, not_false_eq_true, decide_true, decide_false, Bool.not_true, Bool.not_false, false_implies, true_implies, and_true, true_and, Bool.false_eq_true, Bool.true_eq_false, implies_true, Bool.not_not, Classical.not_not, go_sem, Int.reduceToNat, List.take_nil, Nat.zero_mul, Nat.reduceEqDiff, Nat.reduceAdd, Nat.reduceLT, Nat.reduceLeDiff, Nat.reduceMul, ↓reduceIte, reduceCtorEq]
  refine impl_mixed_vital_ hM hm hT i hi ?_
  simp only [not_true_eq_false, not_false_eq_true, decide_true, decide_false, Bool.not_true, Bool.not_false, false_implies, true_implies, and_true, true_and, Bool.false_eq_true, Bool.true_eq_false, implies_true, Bool.not_not, Classical.not_not, go_sem, Int.reduceToNat, List.take_nil, Nat.zero_mul, Nat.reduceEqDiff, Nat.reduceAdd, Nat.reduceLT, Nat.reduceLeDiff, Nat.reduceMul, ↓reduceIte, reduceCtorEq]
  exact Fin.plain hk
theorem impl_mixed_pick_3_ {x y z : Nat} (hx : cellsOf σ x = some [.p b 0]) (hy : cellsOf σ y = some [.p m 0]) (hz : cellsOf σ z = some [.fn n_impl_mixed_pick_1 [] [(x, 0), (y, 0)]]) (hM : MixAt σ b ns c S nu de st) (hm : Mach σ m L done now) (hT : ∀ j ∈ L, 0 ≤ j.T ∧ j.T < S.length) (i : Nat) (hi : i < L.length)
    (hk : K (.b (lowOk S L st.frm i)) σ) : CallWp Try.prog n_impl_mixed_pick_3 [.i .i64 i, .p z 0, .p y 0, .p x 0] σ K := by
  have hm0 := hm
  obtain ⟨⟨j, c1, d, c2, e1, e2, e3⟩, e4⟩ := hm
  refine call_impl_mixed_pick_3 (by simp) ?_
  simp only [c_impl_mixed_pick_3, onC_of hx, onC_of hy, onC_of hz, onC_of e1, onC_of e2, not_true_eq_false, not_false_eq_true, decide_true, decide_false, Bool.not_true, Bool.not_false, false_implies, true_implies, and_true, true_and, Bool.false_eq_true, Bool.true_eq_false, implies_true, Bool.not_not, Classical.not_not, go_sem, Int.reduceToNat, List.take_nil, Nat.zero_mul, Nat.reduceEqDiff, Nat.reduceAdd, Nat.reduceLT, Nat.reduceLeDiff, Nat.reduceMul, ↓reduceIte, reduceCtorEq]
  refine onCall.by (impl_mixed_pick_1_ hx hy hM hm0 hT i hi ⟨rfl, rfl⟩) ?_
  unfold lowOk at hk
  have hL : L.getD i default = L[i] := by simp [List.getD_eq_getElem?_getD, hi]
  rw [hL] at hk
  cases hv : vitJ S L i
  · rw [hv] at hk
    simp only [onC_of hx, onC_of hy, onC_of e1, onC_of e2, onC_of hM.cells, cellsM, rdJ1 hi, lenJ, not_true_eq_false, not_false_eq_true, decide_true, decide_false, Bool.not_true, Bool.not_false, false_implies, true_implies, and_true, true_and, Bool.false_eq_true, Bool.true_eq_false, implies_true, Bool.not_not, Classical.not_not, go_sem, Int.reduceToNat, List.take_nil, Nat.zero_mul, Nat.reduceEqDiff, Nat.reduceAdd, Nat.reduceLT, Nat.reduceLeDiff, Nat.reduceMul, ↓reduceIte, reduceCtorEq]
    rw [Bool.false_or] at hk
    exact ⟨by omega, by omega, Fin.plain hk⟩
  · rw [hv] at hk
    simp only [onC_of hx, onC_of hy, onC_of e1, onC_of e2, onC_of hM.cells, cellsM, rdJ1 hi, lenJ, not_true_eq_false, not_false_eq_true, decide_true, decide_false, Bool.not_true, Bool.not_false, false_implies, true_implies, and_true, true_and, Bool.false_eq_true, Bool.true_eq_false, implies_true, Bool.not_not, Classical.not_not, go_sem, Int.reduceToNat, List.take_nil, Nat.zero_mul, Nat.reduceEqDiff, Nat.reduceAdd, Nat.reduceLT, Nat.reduceLeDiff, Nat.reduceMul, ↓reduceIte, reduceCtorEq]
    rw [Bool.true_or] at hk
    exact Fin.plain hk
theorem impl_mixed_pick_2_ {x y z : Nat} (hx : cellsOf σ x = some [.p b 0]) (hy : cellsOf σ y = some [.p m 0]) (hz : cellsOf σ z = some [.fn n_impl_mixed_pick_1 [] [(x, 0), (y, 0)]]) (hM : MixAt σ b ns c S nu de st) (hm : Mach σ m L done now) (hL : mixLegal S L) (hf : (0 ≤ nu ∧ nu ≤ 27720) ∧ 0 ≤ de ∧ de ≤ 27720) (i : Nat) (hi : i < L.length)
    (hk : K (.i .i64 (mixKey S nu de L i)) σ) : CallWp Try.prog n_impl_mixed_pick_2 [.i .i64 i, .p y 0, .p z 0, .p x 0] σ K := by
  have hm0 := hm
  obtain ⟨⟨j, c1, d, c2, e1, e2, e3⟩, e4⟩ := hm
  have hT : ∀ j ∈ L, 0 ≤ j.T ∧ j.T < S.length := fun j hj => (hL.2.1.mem hj).1
  have hj := hL.2.1.mem (List.getElem_mem hi)
  have hD := hL.2.2.2 _ (List.getElem_mem hi)
  have hok := gM_ok hL.1 hj.1.1 hj.1.2
  unfold MTask.ok at hok
  unfold perM at hD
  obtain ⟨q, hq⟩ := Int.eq_ofNat_of_zero_le hj.1.1
  have hqS : q < S.length := by omega
  have gL : L.getD i default = L[i] := by simp [List.getD_eq_getElem?_getD, hi]
  unfold mixKey at hk
  rw [gL, hq, gM_nat hqS] at hk
  rw [hq, gM_nat hqS] at hD hok
  have b1 : 0 ≤ L[i].R * de ∧ L[i].R * de ≤ 119 * 27720 := ⟨Int.mul_nonneg (by omega) (by omega), Int.mul_le_mul (by omega) (by omega) (by omega) (by omega)⟩
  have b2 : 0 ≤ S[q].P * nu ∧ S[q].P * nu ≤ 12 * 27720 := ⟨Int.mul_nonneg (by omega) (by omega), Int.mul_le_mul (by omega) (by omega) (by omega) (by omega)⟩
  have b3 : 0 ≤ L[i].D * de ∧ L[i].D * de ≤ 131 * 27720 := ⟨Int.mul_nonneg (by omega) (by omega), Int.mul_le_mul (by omega) (by omega) (by omega) (by omega)⟩
  refine callC_impl_mixed_pick_2 (by simp) fun hC _ => ?_
  simp only [c_impl_mixed_pick_2, onC_old hx, onC_old hy, onC_old hz, onC_old e1, onC_old e2, onC_of hx, onC_of hy, onC_of hz, onC_of e1, onC_of e2, winJ hi, encJ, lenJ, List.append_assoc, at_new, at_new0, set_new, set_new0, not_true_eq_false, not_false_eq_true, decide_true, decide_false, Bool.not_true, Bool.not_false, false_implies, true_implies, and_true, true_and, Bool.false_eq_true, Bool.true_eq_false, implies_true, Bool.not_not, Classical.not_not, go_sem, Int.reduceToNat, List.take_nil, Nat.zero_mul, Nat.reduceEqDiff, Nat.reduceAdd, Nat.reduceLT, Nat.reduceLeDiff, Nat.reduceMul, ↓reduceIte, reduceCtorEq]
  refine ⟨by omega, by omega, impl_mixed_pick_1_ (cells_old hx _) (cells_old hy _) (hM.app _) (hm0.app _) hT i hi ?_⟩
  cases hv : vitJ S L i
  · rw [hv] at hk
    simp only [onC_old hx, onC_old hM.cells, cellsM, List.append_assoc, at_new, at_new0, set_new, set_new0, not_true_eq_false, not_false_eq_true, decide_true, decide_false, Bool.not_true, Bool.not_false, false_implies, true_implies, and_true, true_and, Bool.false_eq_true, Bool.true_eq_false, implies_true, Bool.not_not, Classical.not_not, go_sem, Int.reduceToNat, List.take_nil, Nat.zero_mul, Nat.reduceEqDiff, Nat.reduceAdd, Nat.reduceLT, Nat.reduceLeDiff, Nat.reduceMul, ↓reduceIte, reduceCtorEq]
    simp only [not_true_eq_false, not_false_eq_true, decide_true, decide_false, Bool.not_true, Bool.not_false, false_implies, true_implies, and_true, true_and, Bool.false_eq_true, Bool.true_eq_false, implies_true, Bool.not_not, Classical.not_not, if_false] at hk
    exact ⟨by omega, Fin.drop hC (Nat.le_refl _) rfl hk⟩
  · rw [hv] at hk
    simp only [onC_old hx, onC_old hM.cells, onC_old hM.set_, cellsM, hq, Int.toNat_natCast, rdM2 hqS, lenM, List.append_assoc, at_new, at_new0, set_new, set_new0, not_true_eq_false, not_false_eq_true, decide_true, decide_false, Bool.not_true, Bool.not_false, false_implies, true_implies, and_true, true_and, Bool.false_eq_true, Bool.true_eq_false, implies_true, Bool.not_not, Classical.not_not, go_sem, Int.reduceToNat, List.take_nil, Nat.zero_mul, Nat.reduceEqDiff, Nat.reduceAdd, Nat.reduceLT, Nat.reduceLeDiff, Nat.reduceMul, ↓reduceIte, reduceCtorEq]
    simp only [not_true_eq_false, not_false_eq_true, decide_true, decide_false, Bool.not_true, Bool.not_false, false_implies, true_implies, and_true, true_and, Bool.false_eq_true, Bool.true_eq_false, implies_true, Bool.not_not, Classical.not_not, if_true] at hk
    exact ⟨by omega, by omega, by omega, by omega, by omega, Fin.drop hC (Nat.le_refl _) rfl hk⟩
end
end Go.Proofs.Ytmphblbpofnpaaa
/- Contracts: mixed criticality: the picker of the program; its runs. -/
namespace Go.Proofs.Ytmphblbpofnpaaa
open Go.Abs Go.Ds
set_option linter.unusedSimpArgs false
set_option linter.unusedVariables false
set_option maxRecDepth 20000
set_option maxHeartbeats 2000000
theorem at_set (σ τ : List AB) (b k : Nat) (X : AB) : (σ.set b X ++ τ)[σ.length + k]? = τ[k]? := by have := at_new (σ.set b X) τ k; rwa [List.length_set] at this
theorem at_set0 (σ τ : List AB) (b : Nat) (X : AB) : (σ.set b X ++ τ)[σ.length]? = τ[0]? := at_set σ τ b 0 X
theorem at_setb {σ : List AB} {b : Nat} (h : b < σ.length) (τ : List AB) (X : AB) : (σ.set b X ++ τ)[b]? = some X := by
  rw [List.getElem?_append_left (by rw [List.length_set]; exact h), List.getElem?_set_self h]
theorem set_set {σ : List AB} {b : Nat} (h : b < σ.length) (τ : List AB) (X Y : AB) : (σ.set b X ++ τ).set b Y = σ.set b Y ++ τ := by
  rw [set_old (by rw [List.length_set]; exact h), List.set_set]
section
variable {σ : List AB} {b ns c m : Nat} {S : List MTask} {nu de : Int} {st : MSt} {L : List Job} {done : List Int} {now : Nat} {K : AV → List AB → Prop}
theorem impl_mixed_pick_ (hM : MixAt σ b ns c S nu de st) (hm : Mach σ m L done now) (hL : mixLegal S L) (hf : (0 ≤ nu ∧ nu ≤ 27720) ∧ 0 ≤ de ∧ de ≤ 27720) (hn : now < 1000) (hd : ∀ i, i < L.length → 0 ≤ gI done i ∧ gI done i ≤ 1000)
    (hk : K (.i .i64 (mixPick S nu de L st now done).1) (σ.set b (.rw ty_impl_mixed (cellsM ns S.length c nu de (mixPick S nu de L st now done).2) 6))) : CallWp Try.prog n_impl_mixed_pick [.p b 0, .p m 0] σ K := by
  have h60 := hL.2.1.1
  have hT : ∀ j ∈ L, 0 ≤ j.T ∧ j.T < S.length := fun j hj => (hL.2.1.mem hj).1
  refine callC_impl_mixed_pick (by simp) fun hC hA => ?_
  simp only [c_impl_mixed_pick, List.append_assoc, at_new, at_new0, set_new, set_new0, not_true_eq_false, not_false_eq_true, decide_true, decide_false, Bool.not_true, Bool.not_false, false_implies, true_implies, and_true, true_and, Bool.false_eq_true, Bool.true_eq_false, implies_true, Bool.not_not, Classical.not_not, go_sem, Int.reduceToNat, List.take_nil, Nat.zero_mul, Nat.reduceEqDiff, Nat.reduceAdd, Nat.reduceLT, Nat.reduceLeDiff, Nat.reduceMul, ↓reduceIte, reduceCtorEq]
  have hb := (List.getElem?_eq_some_iff.1 hM.at_).1
  have hml : m < σ.length := by obtain ⟨⟨j, c1, d, c2, e1, _⟩, _⟩ := hm; exact cells_lt e1
  have hbk := @pick_back S nu de L st now done
  let B : MSt → AB := fun st' => .rw ty_impl_mixed (cellsM ns S.length c nu de st') 6
  let Bx : List AB := [.rw ty_ptr_impl_mixed [.p b 0] 1, .rw ty_ptr_impl_machine [.p m 0] 1, .rw ty_func_int_bool [.fn n_impl_mixed_pick_1 [] [(σ.length, 0), (σ.length + 1, 0)]] 1]
  refine seq_join (fun _ : Unit => ⟨[(2, .p σ.length 0), (3, .p (σ.length + 1) 0), (5, .p (σ.length + 2) 0)], σ.set b (.rw ty_impl_mixed (cellsM ns S.length c nu de (stBack S L st now done)) 6) ++ [.rw ty_ptr_impl_mixed [.p b 0] 1, .rw ty_ptr_impl_machine [.p m 0] 1, .rw ty_func_int_bool [.fn n_impl_mixed_pick_1 [] [(σ.length, 0), (σ.length + 1, 0)]] 1]⟩)
    (fun _ => True) ?_ ?_
  · have hm' := hm.app [.rw ty_ptr_impl_mixed [.p b 0] 1, .rw ty_ptr_impl_machine [.p m 0] 1, .rw ty_func_int_bool [.fn n_impl_mixed_pick_1 [] [(σ.length, 0), (σ.length + 1, 0)]] 1]
    have hM' := hM.app [.rw ty_ptr_impl_mixed [.p b 0] 1, .rw ty_ptr_impl_machine [.p m 0] 1, .rw ty_func_int_bool [.fn n_impl_mixed_pick_1 [] [(σ.length, 0), (σ.length + 1, 0)]] 1]
    have hself := hM.self
    have hpos := vit_fair S L now done
    have hce := hM.cells
    have hat := hM.at_
    cases hhi : st.high
    · have e : stBack S L st now done = st := by unfold stBack; rw [hhi]; simp
      rw [e, hself]
      simp only [cellsM, hhi] at hce
      simp only [onC_old hce, List.append_assoc, at_new, at_new0, set_new, set_new0, not_true_eq_false, not_false_eq_true, decide_true, decide_false, Bool.not_true, Bool.not_false, false_implies, true_implies, and_true, true_and, Bool.false_eq_true, Bool.true_eq_false, implies_true, Bool.not_not, Classical.not_not, go_sem, Int.reduceToNat, List.take_nil, Nat.zero_mul, Nat.reduceEqDiff, Nat.reduceAdd, Nat.reduceLT, Nat.reduceLeDiff, Nat.reduceMul, ↓reduceIte, reduceCtorEq]
      exact kJ_intro () trivial (Wk.keep (by simp [look_cons]))
    · simp only [cellsM, hhi] at hce hat
      have hat' := at_old hat
      simp only [onC_old hce, List.append_assoc, at_new, at_new0, set_new, set_new0, not_true_eq_false, not_false_eq_true, decide_true, decide_false, Bool.not_true, Bool.not_false, false_implies, true_implies, and_true, true_and, Bool.false_eq_true, Bool.true_eq_false, implies_true, Bool.not_not, Classical.not_not, go_sem, Int.reduceToNat, List.take_nil, Nat.zero_mul, Nat.reduceEqDiff, Nat.reduceAdd, Nat.reduceLT, Nat.reduceLeDiff, Nat.reduceMul, ↓reduceIte, reduceCtorEq]
      refine impl_machine_best_ hm' (by omega) (keyD L) (vitJ S L) (fun i hi τ K hk => impl_machine_deadline_ (hm'.app τ) i hi hk) (fun i hi _ τ K hk => impl_mixed_pick_1_ (x := σ.length) (y := σ.length + 1) (cells_old (by simp [cellsOf]) τ) (cells_old (by simp [cellsOf, at_new]) τ) (hM'.app τ) (hm'.app τ) hT i hi hk) ?_
      obtain ⟨⟨j, c1, d, c2, e1, e2, e3⟩, e4⟩ := hm
      rw [show bestF L.length (fun i => readyJ L done now i && vitJ S L i) (keyD L) = vitBest S L now done from rfl]
      by_cases hneg : vitBest S L now done < 0
      · have e : stBack S L st now done = ⟨false, now, st.first⟩ := by unfold stBack; rw [if_pos ⟨hhi, hneg⟩]
        rw [e]
        simp only [hneg, onC_old hce, onC_old e1, hat', set_old hb, at_set, at_set0, at_setb hb, set_set hb, List.append_assoc, at_new, at_new0, set_new, set_new0, not_true_eq_false, not_false_eq_true, decide_true, decide_false, Bool.not_true, Bool.not_false, false_implies, true_implies, and_true, true_and, Bool.false_eq_true, Bool.true_eq_false, implies_true, Bool.not_not, Classical.not_not, go_sem, Int.reduceToNat, List.take_nil, Nat.zero_mul, Nat.reduceEqDiff, Nat.reduceAdd, Nat.reduceLT, Nat.reduceLeDiff, Nat.reduceMul, ↓reduceIte, reduceCtorEq]
        exact kJ_intro () trivial (Wk.keep (by simp [look_cons]))
      · have e : stBack S L st now done = st := by unfold stBack; rw [if_neg fun h => hneg h.2]
        rw [e, hself]
        simp only [hneg, onC_old hce, List.append_assoc, at_new, at_new0, set_new, set_new0, not_true_eq_false, not_false_eq_true, decide_true, decide_false, Bool.not_true, Bool.not_false, false_implies, true_implies, and_true, true_and, Bool.false_eq_true, Bool.true_eq_false, implies_true, Bool.not_not, Classical.not_not, go_sem, Int.reduceToNat, List.take_nil, Nat.zero_mul, Nat.reduceEqDiff, Nat.reduceAdd, Nat.reduceLT, Nat.reduceLeDiff, Nat.reduceMul, ↓reduceIte, reduceCtorEq]
        exact kJ_intro () trivial (Wk.keep (by simp [look_cons]))
  · rintro _ _
    have hMs := hM.put (stBack S L st now done)
    have hms := hM.mach (.rw ty_impl_mixed (cellsM ns S.length c nu de (stBack S L st now done)) 6) hm
    have hCs := hM.closed hC (stBack S L st now done)
    have hls : (σ.set b (.rw ty_impl_mixed (cellsM ns S.length c nu de (stBack S L st now done)) 6)).length = σ.length := List.length_set ..
    rw [← List.set_set (l := σ) (i := b) (.rw ty_impl_mixed (cellsM ns S.length c nu de (stBack S L st now done)) 6)] at hk
    rw [← hls]
    clear hm hM hC hA hb hml hls
    generalize σ.set b (.rw ty_impl_mixed (cellsM ns S.length c nu de (stBack S L st now done)) 6) = σ2 at *
    generalize stBack S L st now done = st2 at *
    have hb2 := (List.getElem?_eq_some_iff.1 hMs.at_).1
    have hself := hMs.self
    have hm' := hms.app [.rw ty_ptr_impl_mixed [.p b 0] 1, .rw ty_ptr_impl_machine [.p m 0] 1, .rw ty_func_int_bool [.fn n_impl_mixed_pick_1 [] [(σ2.length, 0), (σ2.length + 1, 0)]] 1]
    have hM' := hMs.app [.rw ty_ptr_impl_mixed [.p b 0] 1, .rw ty_ptr_impl_machine [.p m 0] 1, .rw ty_func_int_bool [.fn n_impl_mixed_pick_1 [] [(σ2.length, 0), (σ2.length + 1, 0)]] 1]
    cases hhi : st2.high
    · have hpk := hbk.2 hhi
      rw [hpk] at hk
      simp only at hk
      have hce := hMs.cells
      have hat := hMs.at_
      simp only [cellsM, hhi] at hce hat
      have hat' := at_old hat
      simp only [onC_old hce, List.append_assoc, at_new, at_new0, set_new, set_new0, not_true_eq_false, not_false_eq_true, decide_true, decide_false, Bool.not_true, Bool.not_false, false_implies, true_implies, and_true, true_and, Bool.false_eq_true, Bool.true_eq_false, implies_true, Bool.not_not, Classical.not_not, go_sem, Int.reduceToNat, List.take_nil, Nat.zero_mul, Nat.reduceEqDiff, Nat.reduceAdd, Nat.reduceLT, Nat.reduceLeDiff, Nat.reduceMul, ↓reduceIte, reduceCtorEq]
      refine impl_machine_best_ hm' (by omega) (mixKey S nu de L) (lowOk S L st2.frm) (fun i hi τ K hk => impl_mixed_pick_2_ (x := σ2.length) (y := σ2.length + 1) (z := σ2.length + 2) (cells_old (by simp [cellsOf]) τ) (cells_old (by simp [cellsOf, at_new]) τ) (cells_old (by simp [cellsOf, at_new]) τ) (hM'.app τ) (hm'.app τ) hL hf i hi hk)
        (fun i hi _ τ K hk => impl_mixed_pick_3_ (x := σ2.length) (y := σ2.length + 1) (z := σ2.length + 2) (cells_old (by simp [cellsOf]) τ) (cells_old (by simp [cellsOf, at_new]) τ) (cells_old (by simp [cellsOf, at_new]) τ) (hM'.app τ) (hm'.app τ) hT i hi hk) ?_
      rw [show bestF L.length (fun i => readyJ L done now i && lowOk S L st2.frm i) (mixKey S nu de L) = lowBest S nu de L st2.frm now done from rfl]
      have hlow := low_fair S nu de L st2.frm now done
      generalize lowBest S nu de L st2.frm now done = i at *
      simp only [List.append_assoc, at_new, at_new0, set_new, set_new0, not_true_eq_false, not_false_eq_true, decide_true, decide_false, Bool.not_true, Bool.not_false, false_implies, true_implies, and_true, true_and, Bool.false_eq_true, Bool.true_eq_false, implies_true, Bool.not_not, Classical.not_not, go_sem, Int.reduceToNat, List.take_nil, Nat.zero_mul, Nat.reduceEqDiff, Nat.reduceAdd, Nat.reduceLT, Nat.reduceLeDiff, Nat.reduceMul, ↓reduceIte, reduceCtorEq]
      refine seq_join (fun _ : Unit => ⟨[(8, .i .i64 i)], σ2.set b (.rw ty_impl_mixed (cellsM ns S.length c nu de (if overJ S L done i then ⟨true, st2.frm, if st2.first < 0 then (now : Int) + 1 else st2.first⟩ else st2)) 6) ++ [.rw ty_ptr_impl_mixed [.p b 0] 1, .rw ty_ptr_impl_machine [.p m 0] 1, .rw ty_func_int_bool [.fn n_impl_mixed_pick_1 [] [(σ2.length, 0), (σ2.length + 1, 0)]] 1]⟩)
        (fun _ => True) ?_ ?_
      · obtain ⟨⟨j, c1, d, c2, e1, e2, e3⟩, e4⟩ := hms
        have nover : ¬ overJ S L done i → ∀ T : List (Nat × AV), Abs.look T 8 = .i .i64 i → kJ σ2.length 116 (fun _ : Unit => ⟨[(8, .i .i64 i)], σ2.set b (.rw ty_impl_mixed (cellsM ns S.length c nu de (if overJ S L done i then ⟨true, st2.frm, if st2.first < 0 then (now : Int) + 1 else st2.first⟩ else st2)) 6) ++ [.rw ty_ptr_impl_mixed [.p b 0] 1, .rw ty_ptr_impl_machine [.p m 0] 1, .rw ty_func_int_bool [.fn n_impl_mixed_pick_1 [] [(σ2.length, 0), (σ2.length + 1, 0)]] 1]⟩)
            (fun _ => True) (retP σ2.length [.t 4] K) Exit.normal ⟨T, σ2 ++ [.rw ty_ptr_impl_mixed [.p b 0] 1, .rw ty_ptr_impl_machine [.p m 0] 1, .rw ty_func_int_bool [.fn n_impl_mixed_pick_1 [] [(σ2.length, 0), (σ2.length + 1, 0)]] 1]⟩ := fun hno T hT => by
          rw [if_neg hno, hself]
          exact kJ_intro () trivial (Wk.keep (by intro p hp; rw [List.mem_singleton.1 hp]; exact hT))
        rcases hlow with rfl | ⟨n, rfl, hnL, hrd⟩
        · have hno : ¬ overJ S L done (-1) := fun h => by have := h.1; omega
          simp only [onC_old hce, onC_old e1, List.append_assoc, at_new, at_new0, set_new, set_new0, not_true_eq_false, not_false_eq_true, decide_true, decide_false, Bool.not_true, Bool.not_false, false_implies, true_implies, and_true, true_and, Bool.false_eq_true, Bool.true_eq_false, implies_true, Bool.not_not, Classical.not_not, go_sem, Int.reduceToNat, List.take_nil, Nat.zero_mul, Nat.reduceEqDiff, Nat.reduceAdd, Nat.reduceLT, Nat.reduceLeDiff, Nat.reduceMul, ↓reduceIte, reduceCtorEq]
          exact ⟨fun h => absurd h (by decide), fun _ => nover hno _ (by simp [look_cons])⟩
        · have hTn := hT _ (List.getElem_mem hnL)
          obtain ⟨q, hq⟩ := Int.eq_ofNat_of_zero_le hTn.1
          have hqS : q < S.length := by omega
          have hnd : n < done.length := by omega
          have gL : L.getD n default = L[n] := by simp [List.getD_eq_getElem?_getD, hnL]
          have gd : gI done n = done[n] := by simp [gI, List.getD_eq_getElem?_getD, hnd]
          have hdn := hd n hnL
          rw [gd] at hdn
          have hov : overJ S L done n ↔ (vitJ S L n = true ∧ done[n] + 1 = S[q].Lo ∧ done[n] + 1 < L[n].E) := by
            unfold overJ
            rw [Int.toNat_natCast, gL, gd, hq, gM_nat hqS]
            exact ⟨fun h => h.2, fun h => ⟨by omega, h⟩⟩
          have hsetc := cells_old hMs.set_
          simp only [onC_old hce, onC_old e1, List.append_assoc, at_new, at_new0, set_new, set_new0, not_true_eq_false, not_false_eq_true, decide_true, decide_false, Bool.not_true, Bool.not_false, false_implies, true_implies, and_true, true_and, Bool.false_eq_true, Bool.true_eq_false, implies_true, Bool.not_not, Classical.not_not, go_sem, Int.reduceToNat, List.take_nil, Nat.zero_mul, Nat.reduceEqDiff, Nat.reduceAdd, Nat.reduceLT, Nat.reduceLeDiff, Nat.reduceMul, ↓reduceIte, reduceCtorEq]
          refine onCall.by (impl_mixed_pick_1_ (x := σ2.length) (y := σ2.length + 1) (by simp [cellsOf]) (by simp [cellsOf, at_new]) hM' hm' hT n hnL ⟨rfl, rfl⟩) ?_
          have hset := hMs.set_
          cases hv : vitJ S L n
          · simp only [List.append_assoc, at_new, at_new0, set_new, set_new0, not_true_eq_false, not_false_eq_true, decide_true, decide_false, Bool.not_true, Bool.not_false, false_implies, true_implies, and_true, true_and, Bool.false_eq_true, Bool.true_eq_false, implies_true, Bool.not_not, Classical.not_not, go_sem, Int.reduceToNat, List.take_nil, Nat.zero_mul, Nat.reduceEqDiff, Nat.reduceAdd, Nat.reduceLT, Nat.reduceLeDiff, Nat.reduceMul, ↓reduceIte, reduceCtorEq]
            exact nover (fun h => by rw [hov, hv] at h; simp at h) _ (by simp [look_cons])
          · rw [hv] at hov
            simp only [onC_old hce, onC_old e1, onC_old e2, onC_old e3, onC_old hset, rdI hnd, rdJ0 hnL, rdJ3 hnL, hq, Int.toNat_natCast, rdM0 hqS, lenI, lenJ, lenM, e4, List.append_assoc, at_new, at_new0, set_new, set_new0, not_true_eq_false, not_false_eq_true, decide_true, decide_false, Bool.not_true, Bool.not_false, false_implies, true_implies, and_true, true_and, Bool.false_eq_true, Bool.true_eq_false, implies_true, Bool.not_not, Classical.not_not, go_sem, Int.reduceToNat, List.take_nil, Nat.zero_mul, Nat.reduceEqDiff, Nat.reduceAdd, Nat.reduceLT, Nat.reduceLeDiff, Nat.reduceMul, ↓reduceIte, reduceCtorEq]
            repeat refine ⟨by omega, ?_⟩
            refine ⟨fun h1 => ?_, fun h1 => ?_⟩
            repeat refine ⟨by omega, ?_⟩
            refine ⟨fun h2 => ?_, fun h2 => ?_⟩
            · have hyes : overJ S L done n := hov.2 ⟨rfl, h1, h2⟩
              rw [if_pos hyes]
              have hmb : m ≠ b := by
                rintro rfl
                rw [hMs.cells] at e1
                simp [cellsM] at e1
              have e1s : ∀ (X : AB) (τ : List AB) (f : List AV → Prop), onC (σ2.set b X ++ τ)[m]? f = f [.sl j 0 L.length c1, .sl d 0 L.length c2, .i .i64 now] := fun X τ f => onC_old (by rw [cells_set _ hmb]; exact e1) τ f
              simp only [hat', set_old hb2, at_set, at_set0, at_setb hb2, set_set hb2, e1s, onC_old hce, onC_old e1, List.append_assoc, at_new, at_new0, set_new, set_new0, not_true_eq_false, not_false_eq_true, decide_true, decide_false, Bool.not_true, Bool.not_false, false_implies, true_implies, and_true, true_and, Bool.false_eq_true, Bool.true_eq_false, implies_true, Bool.not_not, Classical.not_not, go_sem, Int.reduceToNat, List.take_nil, Nat.zero_mul, Nat.reduceEqDiff, Nat.reduceAdd, Nat.reduceLT, Nat.reduceLeDiff, Nat.reduceMul, ↓reduceIte, reduceCtorEq]
              refine ⟨fun h3 => ⟨by omega, ?_⟩, fun h3 => ?_⟩
              · rw [if_pos h3]
                exact kJ_intro () trivial (Wk.keep (by simp [look_cons]))
              · rw [if_neg h3]
                exact kJ_intro () trivial (Wk.keep (by simp [look_cons]))
            · exact nover (fun h => h2 (hov.1 h).2.2) _ (by simp [look_cons])
            · exact nover (fun h => h1 (hov.1 h).2.1) _ (by simp [look_cons])
      · rintro _ _
        have hC3 := hMs.closed hCs (if overJ S L done i then ⟨true, st2.frm, if st2.first < 0 then (now : Int) + 1 else st2.first⟩ else st2)
        simp only [not_true_eq_false, not_false_eq_true, decide_true, decide_false, Bool.not_true, Bool.not_false, false_implies, true_implies, and_true, true_and, Bool.false_eq_true, Bool.true_eq_false, implies_true, Bool.not_not, Classical.not_not, go_sem, Int.reduceToNat, List.take_nil, Nat.zero_mul, Nat.reduceEqDiff, Nat.reduceAdd, Nat.reduceLT, Nat.reduceLeDiff, Nat.reduceMul, ↓reduceIte, reduceCtorEq]
        exact Fin.drop hC3 (by rw [List.length_set]; exact Nat.le_refl _) rfl hk
    · have hpk := hbk.1 hhi
      rw [hpk] at hk
      simp only at hk
      rw [hself] at hk
      simp only [onC_old hMs.cells, cellsM, hhi, List.append_assoc, at_new, at_new0, set_new, set_new0, not_true_eq_false, not_false_eq_true, decide_true, decide_false, Bool.not_true, Bool.not_false, false_implies, true_implies, and_true, true_and, Bool.false_eq_true, Bool.true_eq_false, implies_true, Bool.not_not, Classical.not_not, go_sem, Int.reduceToNat, List.take_nil, Nat.zero_mul, Nat.reduceEqDiff, Nat.reduceAdd, Nat.reduceLT, Nat.reduceLeDiff, Nat.reduceMul, ↓reduceIte, reduceCtorEq]
      refine impl_machine_best_ hm' (by omega) (keyD L) (vitJ S L) (fun i hi τ K hk => impl_machine_deadline_ (hm'.app τ) i hi hk) (fun i hi _ τ K hk => impl_mixed_pick_1_ (x := σ2.length) (y := σ2.length + 1) (cells_old (by simp [cellsOf]) τ) (cells_old (by simp [cellsOf, at_new]) τ) (hM'.app τ) (hm'.app τ) hT i hi hk) ?_
      rw [show bestF L.length (fun i => readyJ L done now i && vitJ S L i) (keyD L) = vitBest S L now done from rfl]
      simp only [List.append_assoc, at_new, at_new0, set_new, set_new0, not_true_eq_false, not_false_eq_true, decide_true, decide_false, Bool.not_true, Bool.not_false, false_implies, true_implies, and_true, true_and, Bool.false_eq_true, Bool.true_eq_false, implies_true, Bool.not_not, Classical.not_not, go_sem, Int.reduceToNat, List.take_nil, Nat.zero_mul, Nat.reduceEqDiff, Nat.reduceAdd, Nat.reduceLT, Nat.reduceLeDiff, Nat.reduceMul, ↓reduceIte, reduceCtorEq]
      exact Fin.drop hCs (Nat.le_refl _) rfl hk
end
def mixRunOk (S : List MTask) (L : List Job) (nu de : Int) : Prop := scaleR S = some (nu, de) ∧ mixLegal S L
theorem scaleAt_bound {a b c H nu de : Int} (ha : 0 ≤ a) (hH : 1 ≤ H ∧ H ≤ 27720) (hb : 0 ≤ b) (h : scaleAt a b c H = some (nu, de)) : (0 ≤ nu ∧ nu ≤ 27720) ∧ 0 < de ∧ de ≤ 27720 := by
  unfold scaleAt at h
  split at h
  · obtain ⟨rfl, rfl⟩ := Prod.mk.inj (Option.some.inj h)
    omega
  · split at h
    · rename_i h1
      obtain ⟨rfl, rfl⟩ := Prod.mk.inj (Option.some.inj h)
      have hg : 0 < Nat.gcd b.toNat (H - a).toNat := Nat.gcd_pos_of_pos_left _ (by omega)
      have hg2 : Nat.gcd b.toNat (H - a).toNat ≤ (H - a).toNat := Nat.gcd_le_right _ (by omega)
      have e1 : b / (Nat.gcd b.toNat (H - a).toNat : Nat) ≤ b := Int.ediv_le_self _ hb
      have e2 : 0 ≤ b / (Nat.gcd b.toNat (H - a).toNat : Nat) := Int.ediv_nonneg hb (by omega)
      have e3 : (H - a) / (Nat.gcd b.toNat (H - a).toNat : Nat) ≤ H - a := Int.ediv_le_self _ (by omega)
      have e4 : 1 ≤ (H - a) / (Nat.gcd b.toNat (H - a).toNat : Nat) := (Int.le_ediv_iff_mul_le (by omega)).2 (by omega)
      generalize b / (Nat.gcd b.toNat (H - a).toNat : Nat) = x at *
      generalize (H - a) / (Nat.gcd b.toNat (H - a).toNat : Nat) = y at *
      omega
    · cases h
theorem scaleR_bound {S : List MTask} {nu de : Int} (h : scaleR S = some (nu, de)) : mixOk S ∧ (0 ≤ nu ∧ nu ≤ 27720) ∧ 0 < de ∧ de ≤ 27720 := by
  unfold scaleR at h
  split at h
  · rename_i hS
    have hb := u_bound hS (H := 27720) (by omega) S.length (Nat.le_refl _)
    rw [List.take_length] at hb
    exact ⟨hS, scaleAt_bound hb.1.1 (by omega) hb.2.1.1 h⟩
  · cases h
def MixP (i : Nat) (ok : Prop) (run fin : List Int) (sw : Int) (n : Nat) (x : AV) (τ : List AB) : Prop :=
  (¬ ok ∧ x = .agg [.sn, .sn, .i .i64 0] ∧ τ = []) ∨ (ok ∧ ∃ c1 c2, x = .agg [.sl i 0 120 c1, .sl (i + 1) 0 n c2, .i .i64 sw] ∧ τ = [.rw ty_int (encInt.row run) c1, .rw ty_int (encInt.row fin) c2])
theorem MixP.fr {i : Nat} {ok : Prop} {run fin : List Int} {sw : Int} {n : Nat} {x : AV} {τ : List AB} (h : MixP i ok run fin sw n x τ) : τ.all plainRw = true ∧ freshA i x = true := by
  rcases h with ⟨_, rfl, rfl⟩ | ⟨_, c1, c2, rfl, rfl⟩
  · exact ⟨rfl, rfl⟩
  · exact ⟨by simp [plainRw, encInt.row_flat], by simp [freshA, fresh1A, freshC, Abs.flat]⟩
theorem impl_RunMixed0 (S : List MTask) (L : List Job) (nu de : Int) (hr : scaleR S = some (nu, de) ∨ scaleR S = none) (hs : S.length ≤ 1048576) (hl : L.length ≤ 1048576) (c c' : Nat) : CallWp Try.prog n_impl_RunMixed [.sl 0 0 S.length c, .sl 1 0 L.length c'] [.ro (encMT.row S), .ro (encJob.row L)]
    (fun x σ' => ∃ τ, σ' = [.ro (encMT.row S), .ro (encJob.row L)] ++ τ ∧ MixP 2 (mixRunOk S L nu de) (mixRun S nu de L) (mixFin S nu de L) (mixSw S nu de L) L.length x τ) := by
  refine call_impl_RunMixed (by simp) ?_
  simp only [c_impl_RunMixed, go_sem, Int.reduceToNat, List.take_nil, Nat.zero_mul, Nat.reduceEqDiff, Nat.reduceAdd, Nat.reduceLT, Nat.reduceLeDiff, Nat.reduceMul, ↓reduceIte, reduceCtorEq]
  refine impl_DeadlineScale_ (S := S) (by omega) (Rd.own rfl) ?_
  have no : ¬ mixRunOk S L nu de → ∀ τ : List AB, Fin 2 ([.ro (encMT.row S), .ro (encJob.row L)] ++ τ) (.agg [.sn, .sn, .i .i64 0]) (fun x σ' => ∃ τ, σ' = .ro (encMT.row S) :: .ro (encJob.row L) :: τ ∧ MixP 2 (mixRunOk S L nu de) (mixRun S nu de L) (mixFin S nu de L) (mixSw S nu de L) L.length x τ) := fun hno τ =>
    Fin.drop (σ := [.ro (encMT.row S), .ro (encJob.row L)]) (Closed.add (σ := []) (fun n B h => by simp at h) (by simp [Go.Abs.cellsIn, Go.Abs.Enc.row_bel])) (Nat.le_refl _) rfl ⟨[], rfl, .inl ⟨hno, rfl, rfl⟩⟩
  rcases hr with hsc | hsc
  · rw [hsc]
    simp only [scaleAV, not_true_eq_false, not_false_eq_true, decide_true, decide_false, Bool.not_true, Bool.not_false, false_implies, true_implies, and_true, true_and, Bool.false_eq_true, Bool.true_eq_false, implies_true, Bool.not_not, Classical.not_not, go_sem, Int.reduceToNat, List.take_nil, Nat.zero_mul, Nat.reduceEqDiff, Nat.reduceAdd, Nat.reduceLT, Nat.reduceLeDiff, Nat.reduceMul, ↓reduceIte, reduceCtorEq]
    refine impl_MixedLegal_ (S := S) (L := L) (by omega) (by omega) (Rd.own rfl) (Rd.own rfl) ?_
    simp only [not_true_eq_false, not_false_eq_true, decide_true, decide_false, Bool.not_true, Bool.not_false, false_implies, true_implies, and_true, true_and, Bool.false_eq_true, Bool.true_eq_false, implies_true, Bool.not_not, Classical.not_not, go_sem, Int.reduceToNat, List.take_nil, Nat.zero_mul, Nat.reduceEqDiff, Nat.reduceAdd, Nat.reduceLT, Nat.reduceLeDiff, Nat.reduceMul, ↓reduceIte, reduceCtorEq]
    refine ⟨fun hno => no (fun h => hno h.2) [_, _], fun hL => ?_⟩
    have h60 := hL.2.1.1
    have hb := scaleR_bound hsc
    have hpr : ∀ st now done, -1 ≤ (mixPick S nu de L st now done).1 ∧ (mixPick S nu de L st now done).1 < L.length := fun st now done => by
      rcases pick_fairM S nu de L st now done with e | ⟨n, e, hn, _⟩ <;> omega
    refine impl_simulateS_ (ι := MSt) (Hp := fun st => [.ro (encMT.row S), .ro (encJob.row L), .rw ty_impl_MixedRun [.sn, .sn, .i .i64 0] 3, .rw ty_impl_Fraction [.i .i64 nu, .i .i64 de] 2, .rw ty_impl_mixed (cellsM 0 S.length c nu de st) 6]) (N := 5) (j := 1) (first := [(4, 0)]) (caps := []) (L := L) (mixPick S nu de L) mix0
      (fun k => rfl) (fun _ k => Closed.add (σ := []) (fun n B h => by simp at h) (by simp [Go.Abs.cellsIn, Go.Abs.Enc.row_bel, cellsM, Go.Abs.below])) (fun k => rfl) (by omega)
      (fun k hk τ m hm K hk' => ?_) hpr (fun c1 c2 => ?_)
    · have hsd := sim_done (L := L) (pick := mixPick S nu de L) (s0 := mix0) (fun st now done => (hpr st now done).2) k
      refine impl_mixed_pick_ (b := 4) (ns := 0) (c := c) (S := S) (nu := nu) (de := de) (st := (sim L (mixPick S nu de L) mix0 k).st) (L := L) ⟨rfl, rfl⟩ hm hL ⟨hb.2.1, by omega⟩ (by omega) (fun i hi => by have := hsd i hi; omega) ?_
      rw [sim_st] at hk'
      exact hk'
    · simp only [cellsM, not_true_eq_false, not_false_eq_true, decide_true, decide_false, Bool.not_true, Bool.not_false, false_implies, true_implies, and_true, true_and, Bool.false_eq_true, Bool.true_eq_false, implies_true, Bool.not_not, Classical.not_not, go_sem, Int.reduceToNat, List.take_nil, Nat.zero_mul, Nat.reduceEqDiff, Nat.reduceAdd, Nat.reduceLT, Nat.reduceLeDiff, Nat.reduceMul, ↓reduceIte, reduceCtorEq]
      exact Fin.pick [0, 1, 5, 6] (.agg [.sl 2 0 120 c1, .sl 3 0 L.length c2, .i .i64 (sim L (mixPick S nu de L) mix0 120).st.first]) _ ⟨_, rfl, .inr ⟨⟨hsc, hL⟩, c1, c2, rfl, rfl⟩⟩
  · rw [hsc]
    simp only [scaleAV, not_true_eq_false, not_false_eq_true, decide_true, decide_false, Bool.not_true, Bool.not_false, false_implies, true_implies, and_true, true_and, Bool.false_eq_true, Bool.true_eq_false, implies_true, Bool.not_not, Classical.not_not, go_sem, Int.reduceToNat, List.take_nil, Nat.zero_mul, Nat.reduceEqDiff, Nat.reduceAdd, Nat.reduceLT, Nat.reduceLeDiff, Nat.reduceMul, ↓reduceIte, reduceCtorEq]
    exact no (fun h => by rw [h.1] at hsc; cases hsc) [_, _]
theorem impl_RunMixed_ {S : List MTask} {L : List Job} {nu de : Int} (hr : scaleR S = some (nu, de) ∨ scaleR S = none) (hs : S.length ≤ 1048576) (hl : L.length ≤ 1048576) {v u : AV} {σ : List AB} (h : Rd encMT σ v S) (h' : Rd encJob σ u L) {K : AV → List AB → Prop} (hn : ¬ mixRunOk S L nu de → K (.agg [.sn, .sn, .i .i64 0]) σ)
    (hy : mixRunOk S L nu de → ∀ c1 c2, K (.agg [.sl σ.length 0 120 c1, .sl (σ.length + 1) 0 L.length c2, .i .i64 (mixSw S nu de L)]) (σ ++ [.rw ty_int (encInt.row (mixRun S nu de L)) c1, .rw ty_int (encInt.row (mixFin S nu de L)) c2])) : CallWp Try.prog n_impl_RunMixed [v, u] σ K := by
  refine call_news _ (rds_cons h.r (rds1 h'.r)) (fun c => [.sl 0 0 S.length (c 0), .sl 1 0 L.length (c 1)]) (MixP 2 (mixRunOk S L nu de) (mixRun S nu de L) (mixFin S nu de L) (mixSw S nu de L) L.length) (fun c => impl_RunMixed0 S L nu de hr hs hl (c 0) (c 1)) (fun _ _ h => h.fr) (fun ν c h => ⟨h.1, h.2.1, trivial⟩) (fun _ => rfl) ?_
  rintro x τ (⟨hno, rfl, rfl⟩ | ⟨hyes, c1, c2, rfl, rfl⟩)
  · rw [List.append_nil]; exact hn hno
  · exact hy hyes c1 c2
end Go.Proofs.Ytmphblbpofnpaaa
