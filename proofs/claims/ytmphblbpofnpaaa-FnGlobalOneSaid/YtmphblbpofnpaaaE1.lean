import Derived.Test.YtmphblbpofnpaaaAbsY
import Derived.Test.YtmphblbpofnpaaaC4
import Derived.Test.YtmphblbpofnpaaaMM
namespace Go.Proofs.Ytmphblbpofnpaaa
open Go.Abs Go.Ds
set_option linter.unusedSimpArgs false
set_option linter.unusedVariables false
set_option maxRecDepth 20000
def encJob : Enc Job := ⟨fun j => [.i .i64 j.T, .i .i64 j.R, .i .i64 j.D, .i .i64 j.E], 4, fun _ => rfl, fun _ => rfl⟩
theorem lenJ (L : List Job) : (encJob.row L).length = L.length * 4 := encJob.row_length L
theorem rdJ0 {L : List Job} {k : Nat} (h : k < L.length) : rd (encJob.row L) (k * 4) = .i .i64 (L[k]'h).T := encJob.rd L k 0 h (by decide)
theorem rdJ1 {L : List Job} {k : Nat} (h : k < L.length) : rd (encJob.row L) (k * 4 + 1) = .i .i64 (L[k]'h).R := encJob.rd L k 1 h (by decide)
theorem rdJ2 {L : List Job} {k : Nat} (h : k < L.length) : rd (encJob.row L) (k * 4 + 2) = .i .i64 (L[k]'h).D := encJob.rd L k 2 h (by decide)
theorem rdJ3 {L : List Job} {k : Nat} (h : k < L.length) : rd (encJob.row L) (k * 4 + 3) = .i .i64 (L[k]'h).E := encJob.rd L k 3 h (by decide)
theorem winJ {L : List Job} {k : Nat} (h : k < L.length) : win (encJob.row L) (k * 4) 4 = encJob.f (L[k]'h) := encJob.win L k h
theorem appJ (L : List Job) (a b c d : Int) : encJob.row L ++ [.i .i64 a, .i .i64 b, .i .i64 c, .i .i64 d] = encJob.row (L ++ [⟨a, b, c, d⟩]) := by rw [encJob.row_append, encJob.row_one]; rfl
theorem takeJ (L : List Job) : (encJob.row L).take (L.length * 4) = encJob.row L := List.take_of_length_le (by rw [lenJ]; omega)
theorem Enc_set1 {α : Type} (E : Enc α) (L : List α) (i : Nat) (h : i < L.length) (j : Nat) (hj : j < E.k) (x : AV) (y : α) (hy : (E.f L[i]).set j x = E.f y) : spl (E.row L) (i * E.k + j) [x] = E.row (L.set i y) := by
  have hle : i * E.k + E.k ≤ (E.row L).length := by
    rw [E.row_length]
    have := Nat.mul_le_mul_right E.k (show i + 1 ≤ L.length from h)
    rw [Nat.add_mul, Nat.one_mul] at this
    exact this
  rw [← E.set L i h y, ← hy]
  have hl : ((E.f L[i]).set j x).length = E.k := by rw [List.length_set, E.len]
  apply List.ext_getElem?
  intro m
  rw [spl_get _ _ _ _ (by simp; omega), spl_get _ _ _ _ (by rw [hl]; exact hle), hl]
  have hw := E.win L i h
  by_cases h1 : i * E.k + j = m
  · subst h1
    rw [if_pos (by simp), if_pos (by omega), List.getElem?_set]
    simp [E.len, hj]
  · rw [if_neg (by simp; omega)]
    by_cases h2 : i * E.k ≤ m ∧ m < i * E.k + E.k
    · rw [if_pos h2, List.getElem?_set, if_neg (by omega), ← hw]
      simp only [Abs.win]
      rw [List.getElem?_take, if_pos (by omega), List.getElem?_drop]
      congr 1; omega
    · rw [if_neg h2]
theorem splJ0 {L : List Job} {k : Nat} (h : k < L.length) (a : Int) : spl (encJob.row L) (k * 4) [.i .i64 a] = encJob.row (L.set k ⟨a, L[k].R, L[k].D, L[k].E⟩) := Enc_set1 encJob L k h 0 (by decide) _ _ rfl
theorem splJ1 {L : List Job} {k : Nat} (h : k < L.length) (a : Int) : spl (encJob.row L) (k * 4 + 1) [.i .i64 a] = encJob.row (L.set k ⟨L[k].T, a, L[k].D, L[k].E⟩) := Enc_set1 encJob L k h 1 (by decide) _ _ rfl
theorem splJ2 {L : List Job} {k : Nat} (h : k < L.length) (a : Int) : spl (encJob.row L) (k * 4 + 2) [.i .i64 a] = encJob.row (L.set k ⟨L[k].T, L[k].R, a, L[k].E⟩) := Enc_set1 encJob L k h 2 (by decide) _ _ rfl
theorem splJ3 {L : List Job} {k : Nat} (h : k < L.length) (a : Int) : spl (encJob.row L) (k * 4 + 3) [.i .i64 a] = encJob.row (L.set k ⟨L[k].T, L[k].R, L[k].D, a⟩) := Enc_set1 encJob L k h 3 (by decide) _ _ rfl
theorem encJ (j : Job) : encJob.f j = [.i .i64 j.T, .i .i64 j.R, .i .i64 j.D, .i .i64 j.E] := rfl
def Ans (P : Program) (f : Nat) (first caps : List (Nat × Nat)) (σ : List AB) (args : List AV) (r : AV) : Prop :=
  ∀ (τ : List AB) (K : AV → List AB → Prop), K r (σ ++ τ) → CallWp P f (pAV first ++ args ++ pAV caps) (σ ++ τ) K
theorem Ans.at {P : Program} {f : Nat} {first caps : List (Nat × Nat)} {σ : List AB} {args : List AV} {r : AV} (h : Ans P f first caps σ args r) {K : AV → List AB → Prop} (hk : K r σ) : CallWp P f (pAV first ++ args ++ pAV caps) σ K := by
  have := h [] K (by simpa using hk)
  simpa using this
theorem Ans.go1 {P : Program} {f : Nat} {first caps : List (Nat × Nat)} {σ τ : List AB} {a r : AV} (h : Ans P f first caps σ [a] r) {K : AV → List AB → Prop} (hk : K r (σ ++ τ)) : CallWp P f (pAV first ++ a :: pAV caps) (σ ++ τ) K := by
  simpa using h τ K hk
/-- A captured variable that holds a slice over a whole block. -/
structure Cap {α : Type} (E : Enc α) (σ : List AB) (x : Nat × Nat) (L : List α) : Prop where
  ex : ∃ cs n c, cellsOf σ x.1 = some cs ∧ x.2 < cs.length ∧ rd cs x.2 = .sl n 0 L.length c ∧ cellsOf σ n = some (E.row L)
theorem Cap.app {α : Type} {E : Enc α} {σ : List AB} {x : Nat × Nat} {L : List α} (h : Cap E σ x L) (τ : List AB) : Cap E (σ ++ τ) x L := by
  obtain ⟨cs, n, c, h1, h2, h3, h4⟩ := h
  exact ⟨cs, n, c, cells_old h1 τ, h2, h3, cells_old h4 τ⟩
theorem impl_JobsLegal_1_ {σ : List AB} {x : Nat × Nat} {S : List Task} (h : Cap encTask σ x S) (t : Int) (h0 : 0 ≤ t) (h1 : t < S.length) {K : AV → List AB → Prop} (hk : K (.i .i64 (costOf S t)) σ) : CallWp Try.prog n_impl_JobsLegal_1 [.i .i64 t, .p x.1 x.2] σ K := by
  obtain ⟨cs, n, c, e1, e2, e3, e4⟩ := h
  have ht : t.toNat < S.length := by omega
  refine call_impl_JobsLegal_1 (by simp) ?_
  simp only [c_impl_JobsLegal_1, onC_of e1, onC_of e4, e3, ht, go_sem, Int.reduceToNat, List.take_nil, Nat.zero_mul, Nat.reduceEqDiff, Nat.reduceAdd, Nat.reduceLT, Nat.reduceLeDiff, Nat.reduceMul, ↓reduceIte, reduceCtorEq, lenT, rdT0, rdT1, rdT2, winT, takeT, appT, splT, splI, winI, lenI, rdI, takeI, appI, ← gT_eq ht]
  exact ⟨e2, ⟨h0, h1⟩, by omega, Fin.plain hk⟩
theorem impl_JobsLegal_2_ {σ : List AB} {x : Nat × Nat} {S : List Task} (h : Cap encTask σ x S) (t : Int) (h0 : 0 ≤ t) (h1 : t < S.length) {K : AV → List AB → Prop} (hk : K (.i .i64 (perOf S t)) σ) : CallWp Try.prog n_impl_JobsLegal_2 [.i .i64 t, .p x.1 x.2] σ K := by
  obtain ⟨cs, n, c, e1, e2, e3, e4⟩ := h
  have ht : t.toNat < S.length := by omega
  refine call_impl_JobsLegal_2 (by simp) ?_
  simp only [c_impl_JobsLegal_2, onC_of e1, onC_of e4, e3, ht, go_sem, Int.reduceToNat, List.take_nil, Nat.zero_mul, Nat.reduceEqDiff, Nat.reduceAdd, Nat.reduceLT, Nat.reduceLeDiff, Nat.reduceMul, ↓reduceIte, reduceCtorEq, lenT, rdT0, rdT1, rdT2, winT, takeT, appT, splT, splI, winI, lenI, rdI, takeI, appI, ← gT_eq ht]
  exact ⟨e2, ⟨h0, h1⟩, by omega, Fin.plain hk⟩
theorem impl_release_ {σ : List AB} (j : Job) {K : AV → List AB → Prop} (hk : K (.i .i64 j.R) σ) : CallWp Try.prog n_impl_release [.agg (encJob.f j)] σ K := by
  refine call0 (r := .i .i64 j.R) ?_ rfl rfl hk
  refine call_impl_release (by simp) ?_
  simp only [c_impl_release, encJob, go_sem, Int.reduceToNat, List.take_nil, Nat.zero_mul, Nat.reduceEqDiff, Nat.reduceAdd, Nat.reduceLT, Nat.reduceLeDiff, Nat.reduceMul, ↓reduceIte, reduceCtorEq]
  exact Fin.same rfl
theorem impl_ordered_ {σ : List AB} {n cap : Nat} {f : Nat} {first caps : List (Nat × Nat)} {L : List Job} (N : Int) (cost : Int → Int) (hL : cellsOf σ n = some (encJob.row L)) (hs : L.length ≤ 1099511627776) (hN : 0 ≤ N ∧ N ≤ 1099511627776)
    (hf : ∀ t, 0 ≤ t → t < N → Ans Try.prog f first caps σ [.i .i64 t] (.i .i64 (cost t))) {K : AV → List AB → Prop} (hk : K (.b (decide (orderedP N cost L))) σ) :
    CallWp Try.prog n_impl_ordered [.sl n 0 L.length cap, .i .i64 N, .fn f first caps] σ K := by
  refine callC_impl_ordered (by simp) fun hC hA => ?_
  simp only [List.all_cons, List.all_nil, Bool.and_eq_true, Bool.and_true] at hA
  have hn := cells_lt hL
  have no : ∀ k (h : k < L.length) (τ : List AB), ¬ jrowAt N cost L k h → Fin σ.length (σ ++ τ) (.b false) K := by
    intro k h τ hr
    refine Fin.drop hC (Nat.le_refl _) rfl ?_
    rw [show false = decide (orderedP N cost L) from (decide_eq_false fun hh => hr (hh.2 k h)).symm]
    exact hk
  simp only [c_impl_ordered, go_sem, Int.reduceToNat, List.take_nil, Nat.zero_mul, Nat.reduceEqDiff, Nat.reduceAdd, Nat.reduceLT, Nat.reduceLeDiff, Nat.reduceMul, ↓reduceIte, reduceCtorEq]
  refine loop_count L.length (fun k => ⟨[(0, .sl n 0 L.length cap), (1, .i .i64 N), (2, .fn f first caps), (9, .sl n 0 L.length cap), (10, .i .i64 L.length), (11, .i .i64 k)], σ⟩) (fun k => ∀ m (h : m < L.length), m < k → jrowAt N cost L m h) (fun m h h' => absurd h' (by omega)) (Wk.keep (by simp [look_cons])) fun k hkl hJ => ?_
  simp only [l0_impl_ordered, go_sem, Int.reduceToNat, List.take_nil, Nat.zero_mul, Nat.reduceEqDiff, Nat.reduceAdd, Nat.reduceLT, Nat.reduceLeDiff, Nat.reduceMul, ↓reduceIte, reduceCtorEq]
  refine ⟨fun h => ?_, fun h => ?_⟩
  · have e0 : encJob.f L[k] = [.i .i64 L[k].T, .i .i64 L[k].R, .i .i64 L[k].D, .i .i64 L[k].E] := rfl
    simp only [onC_of hL, onC_old hL, at_new0, set_new0, lenJ, winJ h, e0, go_sem, Int.reduceToNat, List.take_nil, Nat.zero_mul, Nat.reduceEqDiff, Nat.reduceAdd, Nat.reduceLT, Nat.reduceLeDiff, Nat.reduceMul, ↓reduceIte, reduceCtorEq]
    refine ⟨by omega, by omega, by omega, onCall.by (impl_in_ _ _ _ ⟨rfl, rfl⟩) ?_⟩
    simp only [onC_of hL, onC_old hL, at_new0, set_new0, lenJ, winJ h, e0, go_sem, Int.reduceToNat, List.take_nil, Nat.zero_mul, Nat.reduceEqDiff, Nat.reduceAdd, Nat.reduceLT, Nat.reduceLeDiff, Nat.reduceMul, ↓reduceIte, reduceCtorEq]
    refine ⟨fun h1 => ?_, fun h1 => ?_⟩
    · refine onCall.by (impl_in_ _ _ _ ⟨rfl, rfl⟩) ?_
      simp only [h1, onC_of hL, onC_old hL, at_new0, set_new0, lenJ, winJ h, e0, not_true_eq_false, not_false_eq_true, decide_true, decide_false, Bool.not_true, Bool.not_false, false_implies, true_implies, and_true, true_and, Bool.false_eq_true, Bool.true_eq_false, implies_true, Bool.not_not, Classical.not_not, go_sem, Int.reduceToNat, List.take_nil, Nat.zero_mul, Nat.reduceEqDiff, Nat.reduceAdd, Nat.reduceLT, Nat.reduceLeDiff, Nat.reduceMul, ↓reduceIte, reduceCtorEq]
      refine ⟨fun h2 => ?_, fun h2 => no k h _ fun hr => h2 hr.2.1⟩
      refine onCall.by (hf _ h1.1 (by omega) _ _ ⟨rfl, rfl⟩) ?_
      simp only [h1, h2, onC_of hL, onC_old hL, at_new0, set_new0, lenJ, winJ h, e0, not_true_eq_false, not_false_eq_true, decide_true, decide_false, Bool.not_true, Bool.not_false, false_implies, true_implies, and_true, true_and, Bool.false_eq_true, Bool.true_eq_false, implies_true, Bool.not_not, Classical.not_not, go_sem, Int.reduceToNat, List.take_nil, Nat.zero_mul, Nat.reduceEqDiff, Nat.reduceAdd, Nat.reduceLT, Nat.reduceLeDiff, Nat.reduceMul, ↓reduceIte, reduceCtorEq]
      refine onCall.by (impl_in_ _ _ _ ⟨rfl, rfl⟩) ?_
      simp only [h1, h2, onC_of hL, onC_old hL, at_new0, set_new0, lenJ, winJ h, e0, not_true_eq_false, not_false_eq_true, decide_true, decide_false, Bool.not_true, Bool.not_false, false_implies, true_implies, and_true, true_and, Bool.false_eq_true, Bool.true_eq_false, implies_true, Bool.not_not, Classical.not_not, go_sem, Int.reduceToNat, List.take_nil, Nat.zero_mul, Nat.reduceEqDiff, Nat.reduceAdd, Nat.reduceLT, Nat.reduceLeDiff, Nat.reduceMul, ↓reduceIte, reduceCtorEq]
      refine ⟨fun h3 => no k h _ fun hr => h3 hr.2.2.1, fun h3 => ?_⟩
      have next : ∀ T : List (Nat × AV), (0 < k → before (L[k - 1]'(by omega)) L[k]) → (∀ p ∈ ([(0, .sl n 0 L.length cap), (1, .i .i64 N), (2, .fn f first caps), (9, .sl n 0 L.length cap), (10, .i .i64 L.length), (11, .i .i64 ((k + 1 : Nat) : Int))] : List (Nat × AV)), Abs.look T p.1 = p.2) →
          (-9223372036854775808 ≤ (k : Int) + 1 ∧ (k : Int) + 1 ≤ 9223372036854775807) ∧ (k < L.length ∧ ∀ m (h : m < L.length), m < k + 1 → jrowAt N cost L m h) ∧ Wk σ.length 77 ⟨T, σ ++ [.rw ty_impl_Job [.i .i64 L[k].T, .i .i64 L[k].R, .i .i64 L[k].D, .i .i64 L[k].E] 4]⟩ ⟨[(0, .sl n 0 L.length cap), (1, .i .i64 N), (2, .fn f first caps), (9, .sl n 0 L.length cap), (10, .i .i64 L.length), (11, .i .i64 ((k + 1 : Nat) : Int))], σ⟩ := by
        intro T hb hT
        refine ⟨by omega, ⟨h, fun m hm hmk => ?_⟩, Wk.drop hC (Nat.le_refl _) fun p hp => ⟨hT p hp, ?_⟩⟩
        · rcases Nat.lt_succ_iff_lt_or_eq.1 hmk with h' | rfl
          · exact hJ m hm h'
          · exact ⟨⟨h1.1, by omega⟩, h2, h3, hb⟩
        · simp only [List.mem_cons, List.not_mem_nil, or_false] at hp
          rcases hp with rfl | rfl | rfl | rfl | rfl | rfl <;> first | rfl | exact hA.1 | exact hA.2.2
      have e1 : ((k : Int) - 1).toNat = k - 1 := by omega
      refine ⟨fun h4 => ?_, fun h4 => next _ (fun h => absurd h (by omega)) (by simp [look_cons])⟩
      have hk1 : k - 1 < L.length := by omega
      simp only [e1, rdJ0 hk1, rdJ1 hk1, not_true_eq_false, not_false_eq_true, decide_true, decide_false, Bool.not_true, Bool.not_false, false_implies, true_implies, and_true, true_and, Bool.false_eq_true, Bool.true_eq_false, implies_true, Bool.not_not, Classical.not_not, go_sem, Int.reduceToNat, List.take_nil, Nat.zero_mul, Nat.reduceEqDiff, Nat.reduceAdd, Nat.reduceLT, Nat.reduceLeDiff, Nat.reduceMul, ↓reduceIte, reduceCtorEq]
      refine ⟨by omega, by omega, by omega, fun h5 => ?_, fun h5 => no k h _ fun hr => ?_⟩
      · refine ⟨by omega, by omega, by omega, fun h6 => ⟨by omega, by omega, by omega, fun h7 => no k h _ fun hr => ?_, fun h7 => next _ (fun _ => ?_) (by simp [look_cons])⟩, fun h6 => next _ (fun _ => ?_) (by simp [look_cons])⟩
        · have := hr.2.2.2 (by omega); unfold before at this; omega
        · unfold before; omega
        · unfold before; omega
      · have := hr.2.2.2 (by omega); unfold before at this; omega
    · exact no k h _ fun hr => h1 ⟨hr.1.1, by have := hr.1.2; omega⟩
  · have e : k = L.length := by omega
    subst e
    refine Fin.plain ?_
    rw [decide_eq_decide.2 (show (L.length : Int) ≤ 60 ↔ orderedP N cost L from ⟨fun h => ⟨by omega, fun m hm => hJ m hm hm⟩, fun h => by have := h.1; omega⟩)]
    exact hk
theorem impl_spaced_ {σ : List AB} {n cap : Nat} {f f' : Nat} {first caps first' caps' : List (Nat × Nat)} {L : List Job} (at_ : Job → Int) (per : Int → Int) (hL : cellsOf σ n = some (encJob.row L)) (hs : L.length ≤ 1048576)
    (hb : ∀ j ∈ L, (-1000000 ≤ at_ j ∧ at_ j ≤ 1000000) ∧ -1000000 ≤ j.T ∧ j.T ≤ 1000000)
    (hf : ∀ j ∈ L, Ans Try.prog f first caps σ [.agg (encJob.f j)] (.i .i64 (at_ j))) (hg : ∀ j ∈ L, Ans Try.prog f' first' caps' σ [.i .i64 j.T] (.i .i64 (per j.T))) {K : AV → List AB → Prop} (hk : K (.b (decide (spacedP at_ per L))) σ) :
    CallWp Try.prog n_impl_spaced [.sl n 0 L.length cap, .fn f first caps, .fn f' first' caps'] σ K := by
  refine callC_impl_spaced (by simp) fun hC hA => ?_
  simp only [List.all_cons, List.all_nil, Bool.and_eq_true, Bool.and_true] at hA
  have hn := cells_lt hL
  have no : ∀ k (h : k < L.length) (τ : List AB), ¬ gapAt at_ per L k h → Fin σ.length (σ ++ τ) (.b false) K := by
    intro k h τ hr
    refine Fin.drop hC (Nat.le_refl _) rfl ?_
    rw [show false = decide (spacedP at_ per L) from (decide_eq_false fun hh => hr (hh k h)).symm]
    exact hk
  simp only [c_impl_spaced, go_sem, Int.reduceToNat, List.take_nil, Nat.zero_mul, Nat.reduceEqDiff, Nat.reduceAdd, Nat.reduceLT, Nat.reduceLeDiff, Nat.reduceMul, ↓reduceIte, reduceCtorEq]
  refine loop_count L.length (fun k => ⟨[(1, .fn f first caps), (2, .fn f' first' caps'), (7, .mp σ.length), (14, .sl n 0 L.length cap), (15, .i .i64 L.length), (16, .i .i64 k)], σ ++ [.mb Try.prog 3 3 k (lastAt at_ (L.take k))]⟩) (fun k => ∀ m (h : m < L.length), m < k → gapAt at_ per L m h) (fun m h h' => absurd h' (by omega)) (Wk.keep (by simp [look_cons])) fun k hkl hJ => ?_
  simp only [l0_impl_spaced, go_sem, Int.reduceToNat, List.take_nil, Nat.zero_mul, Nat.reduceEqDiff, Nat.reduceAdd, Nat.reduceLT, Nat.reduceLeDiff, Nat.reduceMul, ↓reduceIte, reduceCtorEq]
  refine ⟨fun h => ?_, fun h => ?_⟩
  · have e0 : encJob.f L[k] = [.i .i64 L[k].T, .i .i64 L[k].R, .i .i64 L[k].D, .i .i64 L[k].E] := rfl
    have hm := List.getElem_mem h
    have hbk := hb _ hm
    simp only [onC_of hL, onC_old hL, at_new, at_new0, set_new, set_new0, lenJ, winJ h, List.append_assoc, e0, go_sem, Int.reduceToNat, List.take_nil, Nat.zero_mul, Nat.reduceEqDiff, Nat.reduceAdd, Nat.reduceLT, Nat.reduceLeDiff, Nat.reduceMul, ↓reduceIte, reduceCtorEq]
    refine ⟨by omega, by omega, (hf _ hm).go1 ?_⟩
    have hfit : -9223372036854775808 ≤ L[k].T ∧ L[k].T ≤ 9223372036854775807 := by omega
    have next : ∀ T : List (Nat × AV), gapAt at_ per L k h → (∀ p ∈ ([(1, .fn f first caps), (2, .fn f' first' caps'), (7, .mp σ.length), (14, .sl n 0 L.length cap), (15, .i .i64 L.length), (16, .i .i64 ((k + 1 : Nat) : Int))] : List (Nat × AV)), Abs.look T p.1 = p.2) →
        (-9223372036854775808 ≤ (k : Int) + 1 ∧ (k : Int) + 1 ≤ 9223372036854775807) ∧ (k < L.length ∧ ∀ m (h : m < L.length), m < k + 1 → gapAt at_ per L m h) ∧ Wk σ.length 46 ⟨T, σ ++ [.mb Try.prog 3 3 (k + 1) (fun u => if u = L[k].T then some (at_ L[k]) else lastAt at_ (L.take k) u), .rw ty_impl_Job [.i .i64 L[k].T, .i .i64 L[k].R, .i .i64 L[k].D, .i .i64 L[k].E] 4]⟩
          ⟨[(1, .fn f first caps), (2, .fn f' first' caps'), (7, .mp σ.length), (14, .sl n 0 L.length cap), (15, .i .i64 L.length), (16, .i .i64 ((k + 1 : Nat) : Int))], σ ++ [.mb Try.prog 3 3 (k + 1) (lastAt at_ (L.take (k + 1)))]⟩ := by
      intro T hb hT
      rw [lastAt_succ at_ h]
      refine ⟨by omega, ⟨h, fun m hm hmk => ?_⟩, Wk.drop2 [_] [_] hC rfl (Nat.le_refl _) fun p hp => ⟨hT p hp, ?_⟩⟩
      · rcases Nat.lt_succ_iff_lt_or_eq.1 hmk with h' | rfl
        · exact hJ m hm h'
        · exact hb
      · simp only [List.mem_cons, List.not_mem_nil, or_false] at hp
        have g1 : Abs.below (σ.length + 1) (.fn f first caps) = true := below_mono (Nat.le_succ _) hA.2.1
        have g2 : Abs.below (σ.length + 1) (.fn f' first' caps') = true := below_mono (Nat.le_succ _) hA.2.2
        rcases hp with rfl | rfl | rfl | rfl | rfl | rfl <;> first | rfl | exact g1 | exact g2 | (simp only [belowT, below1, Abs.below, List.length_cons, List.length_nil, decide_eq_true_eq]; omega)
    simp only [onC_of hL, onC_old hL, at_new, at_new0, set_new, set_new0, lenJ, winJ h, List.append_assoc, e0, go_sem, Int.reduceToNat, List.take_nil, Nat.zero_mul, Nat.reduceEqDiff, Nat.reduceAdd, Nat.reduceLT, Nat.reduceLeDiff, Nat.reduceMul, ↓reduceIte, reduceCtorEq]
    refine ⟨by omega, ?_⟩
    cases hlast : lastAt at_ (L.take k) L[k].T with
    | none =>
      simp only [hlast, onC_of hL, onC_old hL, at_new, at_new0, set_new, set_new0, lenJ, winJ h, List.append_assoc, e0, not_true_eq_false, not_false_eq_true, decide_true, decide_false, Bool.not_true, Bool.not_false, false_implies, true_implies, and_true, true_and, Bool.false_eq_true, Bool.true_eq_false, implies_true, Bool.not_not, Classical.not_not, go_sem, Int.reduceToNat, List.take_nil, Nat.zero_mul, Nat.reduceEqDiff, Nat.reduceAdd, Nat.reduceLT, Nat.reduceLeDiff, Nat.reduceMul, ↓reduceIte, reduceCtorEq]
      refine ⟨by omega, ?_⟩
      exact next _ (fun b hb => by rw [hlast] at hb; cases hb) (by simp [look_cons])
    | some b =>
      obtain ⟨j, hj, hj1, hj2⟩ := lastAt_mem _ _ _ _ hlast
      have hbj := hb j (List.mem_of_mem_take hj)
      simp only [hlast, onC_of hL, onC_old hL, at_new, at_new0, set_new, set_new0, lenJ, winJ h, List.append_assoc, e0, not_true_eq_false, not_false_eq_true, decide_true, decide_false, Bool.not_true, Bool.not_false, false_implies, true_implies, and_true, true_and, Bool.false_eq_true, Bool.true_eq_false, implies_true, Bool.not_not, Classical.not_not, go_sem, Int.reduceToNat, List.take_nil, Nat.zero_mul, Nat.reduceEqDiff, Nat.reduceAdd, Nat.reduceLT, Nat.reduceLeDiff, Nat.reduceMul, ↓reduceIte, reduceCtorEq]
      refine ⟨by omega, (hg _ hm).go1 ?_⟩
      simp only [hlast, onC_of hL, onC_old hL, at_new, at_new0, set_new, set_new0, lenJ, winJ h, List.append_assoc, e0, not_true_eq_false, not_false_eq_true, decide_true, decide_false, Bool.not_true, Bool.not_false, false_implies, true_implies, and_true, true_and, Bool.false_eq_true, Bool.true_eq_false, implies_true, Bool.not_not, Classical.not_not, go_sem, Int.reduceToNat, List.take_nil, Nat.zero_mul, Nat.reduceEqDiff, Nat.reduceAdd, Nat.reduceLT, Nat.reduceLeDiff, Nat.reduceMul, ↓reduceIte, reduceCtorEq]
      refine ⟨fun h1 => no k h _ fun hr => ?_, fun h1 => ⟨by omega, next _ (fun b' hb' => ?_) (by simp [look_cons])⟩⟩
      · have := hr b hlast; omega
      · rw [hlast] at hb'; cases hb'; omega
  · have e : k = L.length := by omega
    subst e
    refine Fin.drop hC (Nat.le_refl _) rfl ?_
    have e2 : spacedP at_ per L := fun m hm => hJ m hm hm
    rw [show true = decide (spacedP at_ per L) from (decide_eq_true e2).symm]
    exact hk
end Go.Proofs.Ytmphblbpofnpaaa
