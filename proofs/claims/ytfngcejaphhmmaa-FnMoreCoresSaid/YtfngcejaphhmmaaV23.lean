/- The law FnMoreCores answers true: over the abstract heap. -/
import Derived.Test.YtfngcejaphhmmaaS29
import Derived.Test.YtfngcejaphhmmaaS31
namespace Go.Proofs.Ytfngcejaphhmmaa
open Go.Abs Go.Ds
set_option linter.unusedSimpArgs false
set_option linter.unusedVariables false
set_option maxRecDepth 20000
set_option maxHeartbeats 2000000

theorem part_more {S : List Task} {m m' : Int} (hm : m ≤ m') {A : List Int} (h : part S m = some A) (h0 : 0 ≤ m) : ∃ B, part S m' = some B := by
  have hf := dfs_feas h
  exact dfs_iff.2 ⟨A, feasA_more (by omega) hf⟩

/-- A smaller set needs no more processors. -/
theorem min_erase {S : List Task} {i : Nat} (hi : i < S.length) {r r' : Int} (h : MinP S r) (h' : MinP (S.eraseIdx i) r') (hS : setOk S) : r' ≤ r := by
  have hS' := setOk_sub (List.eraseIdx_sublist S i) hS
  rcases h with ⟨h1, _⟩ | ⟨_, h2, h3, h4⟩
  · exact absurd hS h1
  rcases h' with ⟨g1, _⟩ | ⟨_, g2, g3, g4⟩
  · exact absurd hS' g1
  rcases Int.lt_or_le r r' with e | e
  · obtain ⟨A, hA⟩ := h4 (by omega)
    obtain ⟨A', hA'⟩ := feasA_erase (dfs_feas hA) hi rfl
    obtain ⟨B, hB⟩ := dfs_iff.2 ⟨A', hA'⟩
    have := g3 r h2.1 e
    unfold part at this
    rw [hB] at this; cases this
  · exact e

theorem row_drop (S : List Task) (k : Nat) : (encTask.row S).drop (k * 3) = encTask.row (S.drop k) := by
  rcases Nat.lt_or_ge k S.length with h | h
  · have e : encTask.row S = encTask.row (S.take k) ++ encTask.row (S.drop k) := by rw [← encTask.row_append, List.take_append_drop]
    rw [e, List.drop_left' (by rw [lenT, List.length_take, Nat.min_eq_left (by omega)])]
  · rw [List.drop_of_length_le (by rw [lenT]; omega), List.drop_of_length_le h]; rfl
theorem row_erase (S : List Task) {i : Nat} (hi : i < S.length) : List.take (i * 3) (Abs.win (encTask.row S) 0 (i * 3)) ++ Abs.win (encTask.row S) ((i + 1) * 3) ((S.length - (i + 1)) * 3) = encTask.row (S.eraseIdx i) := by
  have e1 : List.take (i * 3) (Abs.win (encTask.row S) 0 (i * 3)) = encTask.row (S.take i) := by
    unfold Abs.win
    rw [List.drop_zero, List.take_take, Nat.min_self]
    exact encTask.take S i
  have e2 : Abs.win (encTask.row S) ((i + 1) * 3) ((S.length - (i + 1)) * 3) = encTask.row (S.drop (i + 1)) := by
    unfold Abs.win
    rw [row_drop, List.take_of_length_le (by rw [lenT, List.length_drop]; omega)]
  rw [e1, e2, ← encTask.row_append, ← List.eraseIdx_eq_take_drop_succ]

theorem laws_without0 (S : List Task) (i : Nat) (hi : i < S.length) (hs : S.length ≤ 1000) (c : Nat) (hc : S.length ≤ c) : CallWp Try.prog n_laws_without [.sl 0 0 S.length c, .i .i64 i] [.ro (encTask.row S)] (fun x σ' => ∃ τ, σ' = [.ro (encTask.row S)] ++ τ ∧ OnQ 1 (S.eraseIdx i) x τ) := by
  refine call_laws_without (by simp) ?_
  have en : ((i : Int) + 1).toNat = i + 1 := by omega
  have hl : (S.eraseIdx i).length = i + (S.length - (i + 1)) := by rw [List.length_eraseIdx, if_pos hi]; omega
  have hw : (Abs.win (encTask.row S) 0 (i * 3)).length = i * 3 := by unfold Abs.win; rw [List.drop_zero, List.length_take, lenT]; omega
  simp only [c_laws_without, lenT, en, hw, not_true_eq_false, not_false_eq_true, decide_true, decide_false, Bool.not_true, Bool.not_false, false_implies, true_implies, and_true, true_and, Bool.false_eq_true, Bool.true_eq_false, implies_true, Bool.not_not, Classical.not_not, go_sem, Int.reduceToNat, List.take_nil, Nat.zero_mul, Nat.reduceEqDiff, Nat.reduceAdd, Nat.reduceLT, Nat.reduceLeDiff, Nat.reduceMul, ↓reduceIte, reduceCtorEq]
  refine ⟨by omega, by omega, by omega, by omega, fun _ => ⟨by omega, fun cap1 h1 => ⟨by omega, fun cap2 h2 => ?_⟩⟩, fun hce => ⟨by omega, fun cap1 h1 => ⟨by omega, fun cap2 h2 => ?_⟩⟩⟩
  · rw [row_erase S hi, ← hl]
    exact Fin.pick [0, 3] (.sl 1 0 (S.eraseIdx i).length cap2) [.ro (encTask.row S), .rw ty_impl_Task (encTask.row (S.eraseIdx i)) (cap2 * 3)] ⟨_, rfl, cap2, rfl, by omega, rfl⟩
  · have e0 : S.length - (i + 1) = 0 := by omega
    have e1 := row_erase S hi
    rw [e0] at e1 hl h2 ⊢
    have e2 : Abs.win (encTask.row S) 0 (0 * 3) = Abs.win (encTask.row S) ((i + 1) * 3) (0 * 3) := by unfold Abs.win; simp
    rw [e2, e1, ← hl]
    exact Fin.pick [0, 3] (.sl 1 0 (S.eraseIdx i).length cap2) [.ro (encTask.row S), .rw ty_impl_Task (encTask.row (S.eraseIdx i)) (cap2 * 3)] ⟨_, rfl, cap2, rfl, by omega, rfl⟩
theorem laws_withoutN (S : List Task) (i : Nat) (hi : i < S.length) (hs : S.length ≤ 1000) (c : Nat) : CallWp Try.prog n_laws_without [.sl 0 0 S.length c, .i .i64 i] [.ro (encTask.row S)] (fun x σ' => ∃ τ, σ' = [.ro (encTask.row S)] ++ τ ∧ OnQ 1 (S.eraseIdx i) x τ) := by
  by_cases hc : S.length ≤ c
  · exact laws_without0 S i hi hs c hc
  · refine ⟨(laws_without0 S i hi hs S.length (Nat.le_refl _)).1, fun F ρ w vs hs hv => ?_⟩
    cases vs with
    | nil => exact hv.elim
    | cons v vs => exact absurd hv.1.2.1 hc
theorem laws_without_ {S : List Task} {i : Nat} (hi : i < S.length) (hs : S.length ≤ 1000) {v : AV} {σ : List AB} (h : Rd encTask σ v S) {K : AV → List AB → Prop} (hk : ∀ c, (S.eraseIdx i).length ≤ c → K (.sl σ.length 0 (S.eraseIdx i).length c) (σ ++ [.rw ty_impl_Task (encTask.row (S.eraseIdx i)) (c * 3)])) : CallWp Try.prog n_laws_without [v, .i .i64 i] σ K := by
  refine call_news _ (rds1 h.r) (fun c => [.sl 0 0 S.length (c 0), .i .i64 i]) (OnQ 1 (S.eraseIdx i)) (fun c => laws_withoutN S i hi hs (c 0)) (fun _ _ h => h.fr) (fun ν c h => ⟨h.1, .inl rfl, trivial⟩) (fun _ => rfl) ?_
  rintro x τ ⟨c, rfl, h2, rfl⟩
  exact hk c h2

theorem laws_FnMoreCores0 (C : List Nat) (hC : ∀ x ∈ C, x < 256) (c : Nat) (hc : C.length ≤ c) : CallWp Try.prog n_laws_FnMoreCores [.sl 0 0 C.length c] [.ro (encByte.row C)] (fun x _ => x = .b true) := by
  refine call_laws_FnMoreCores (by simp) ?_
  simp only [c_laws_FnMoreCores, go_sem, Int.reduceToNat, List.take_nil, Nat.zero_mul, Nat.reduceEqDiff, Nat.reduceAdd, Nat.reduceLT, Nat.reduceLeDiff, Nat.reduceMul, ↓reduceIte, reduceCtorEq]
  refine ⟨fun h => Fin.plain rfl, fun h => ?_⟩
  refine (spec_DrawFirstFit0 C hC c hc).mono ?_
  rintro x σ' _ ⟨S, cap, m, rfl, rfl, hS8, hm⟩
  simp only [go_sem, Int.reduceToNat, List.take_nil, Nat.zero_mul, Nat.reduceEqDiff, Nat.reduceAdd, Nat.reduceLT, Nat.reduceLeDiff, Nat.reduceMul, ↓reduceIte, reduceCtorEq]
  refine impl_FirstFit_ (S := S) (by omega) (Rd.own rfl) fun x τ hx => ?_
  rcases hx with ⟨A, c1, r1, rfl, rfl, hok, hA⟩ | ⟨rfl, rfl, hno⟩
  · simp only [go_sem, Int.reduceToNat, List.take_nil, Nat.zero_mul, Nat.reduceEqDiff, Nat.reduceAdd, Nat.reduceLT, Nat.reduceLeDiff, Nat.reduceMul, ↓reduceIte, reduceCtorEq]
    refine spec_FirstFit_ (S := S) (by omega) (Rd.own rfl) fun x τ hx => ?_
    rcases hx with ⟨A', c2, r2, rfl, rfl, _, hA'⟩ | ⟨rfl, rfl, hno⟩
    rotate_left
    · have := (hA.same (hno hok)).1; cases this
    obtain ⟨_, rfl⟩ := hA.same hA'
    have hAl : A.length ≤ 8 := by
      rcases hA with ⟨_, h1, h2⟩ | ⟨h, _⟩
      · omega
      · cases h
    have hS := hok.1
    simp only [not_true_eq_false, not_false_eq_true, decide_true, decide_false, Bool.not_true, Bool.not_false, false_implies, true_implies, and_true, true_and, Bool.false_eq_true, Bool.true_eq_false, implies_true, Bool.not_not, Classical.not_not, go_sem, Int.reduceToNat, List.take_nil, Nat.zero_mul, Nat.reduceEqDiff, Nat.reduceAdd, Nat.reduceLT, Nat.reduceLeDiff, Nat.reduceMul, ↓reduceIte, reduceCtorEq]
    refine laws_sameInts_ (L := A) (M := A) (by omega) (Rd.own rfl) (Rd.own rfl) ?_
    simp only [not_true_eq_false, not_false_eq_true, decide_true, decide_false, Bool.not_true, Bool.not_false, false_implies, true_implies, and_true, true_and, Bool.false_eq_true, Bool.true_eq_false, implies_true, Bool.not_not, Classical.not_not, go_sem, Int.reduceToNat, List.take_nil, Nat.zero_mul, Nat.reduceEqDiff, Nat.reduceAdd, Nat.reduceLT, Nat.reduceLeDiff, Nat.reduceMul, ↓reduceIte, reduceCtorEq]
    refine impl_Partition_ (S := S) (by omega) (Rd.own rfl) fun x τ hx => ?_
    rcases hx with ⟨B, c3, r3, rfl, rfl, _, hB⟩ | ⟨rfl, rfl, hnB⟩
    all_goals
      simp only [not_true_eq_false, not_false_eq_true, decide_true, decide_false, Bool.not_true, Bool.not_false, false_implies, true_implies, and_true, true_and, Bool.false_eq_true, Bool.true_eq_false, implies_true, Bool.not_not, Classical.not_not, go_sem, Int.reduceToNat, List.take_nil, Nat.zero_mul, Nat.reduceEqDiff, Nat.reduceAdd, Nat.reduceLT, Nat.reduceLeDiff, Nat.reduceMul, ↓reduceIte, reduceCtorEq]
      refine seq_join (fun _ : Unit => ⟨[(3, .sl 1 0 S.length cap)], [.ro (encByte.row C), .rw ty_impl_Task (encTask.row S) (cap * 3)]⟩) (fun _ => True) ?_ fun _ _ => ?_
      · simp only [not_true_eq_false, not_false_eq_true, decide_true, decide_false, Bool.not_true, Bool.not_false, false_implies, true_implies, and_true, true_and, Bool.false_eq_true, Bool.true_eq_false, implies_true, Bool.not_not, Classical.not_not, go_sem, Int.reduceToNat, List.take_nil, Nat.zero_mul, Nat.reduceEqDiff, Nat.reduceAdd, Nat.reduceLT, Nat.reduceLeDiff, Nat.reduceMul, ↓reduceIte, reduceCtorEq]
        have hm1 := hok.2
        refine ⟨fun h5 => ⟨fun h0 => ⟨by omega, ?_⟩, fun h0 => absurd (by omega) h0⟩, fun h5 => kJ_intro () trivial (Wk.pick [0, 1])⟩
        refine impl_FirstFit_ (S := S) (by omega) (Rd.own rfl) fun x τ hx => ?_
        rcases hx with ⟨A2, c5, r5, rfl, rfl, _, hA2⟩ | ⟨rfl, rfl, hno2⟩
        rotate_left
        · have := (FFP.more (by omega) hA (hno2 ⟨hS, by omega, by omega⟩)).1; cases this
        obtain ⟨_, rfl⟩ := FFP.more (by omega) hA hA2
        simp only [not_true_eq_false, not_false_eq_true, decide_true, decide_false, Bool.not_true, Bool.not_false, false_implies, true_implies, and_true, true_and, Bool.false_eq_true, Bool.true_eq_false, implies_true, Bool.not_not, Classical.not_not, go_sem, Int.reduceToNat, List.take_nil, Nat.zero_mul, Nat.reduceEqDiff, Nat.reduceAdd, Nat.reduceLT, Nat.reduceLeDiff, Nat.reduceMul, ↓reduceIte, reduceCtorEq]
        refine ⟨by omega, ?_⟩
        refine impl_Partition_ (S := S) (by omega) (Rd.own rfl) fun x τ hx => ?_
        rcases hx with ⟨B2, c6, r6, rfl, rfl, _, hB2⟩ | ⟨rfl, rfl, hnB2⟩
        all_goals
          simp only [not_true_eq_false, not_false_eq_true, decide_true, decide_false, Bool.not_true, Bool.not_false, false_implies, true_implies, and_true, true_and, Bool.false_eq_true, Bool.true_eq_false, implies_true, Bool.not_not, Classical.not_not, go_sem, Int.reduceToNat, List.take_nil, Nat.zero_mul, Nat.reduceEqDiff, Nat.reduceAdd, Nat.reduceLT, Nat.reduceLeDiff, Nat.reduceMul, ↓reduceIte, reduceCtorEq]
          refine laws_sameInts_ (L := A2) (M := A2) (by omega) (Rd.own rfl) (Rd.own rfl) ?_
          simp only [not_true_eq_false, not_false_eq_true, decide_true, decide_false, Bool.not_true, Bool.not_false, false_implies, true_implies, and_true, true_and, Bool.false_eq_true, Bool.true_eq_false, implies_true, Bool.not_not, Classical.not_not, go_sem, Int.reduceToNat, List.take_nil, Nat.zero_mul, Nat.reduceEqDiff, Nat.reduceAdd, Nat.reduceLT, Nat.reduceLeDiff, Nat.reduceMul, ↓reduceIte, reduceCtorEq]
          first
            | exact kJ_intro () trivial (Wk.pick [0, 1])
            | (exfalso
               obtain ⟨B3, h3⟩ := part_more (show m ≤ m + 1 by omega) hB (by omega)
               rw [hnB2 ⟨hS, by omega, by omega⟩] at h3
               cases h3)
      · simp only [not_true_eq_false, not_false_eq_true, decide_true, decide_false, Bool.not_true, Bool.not_false, false_implies, true_implies, and_true, true_and, Bool.false_eq_true, Bool.true_eq_false, implies_true, Bool.not_not, Classical.not_not, go_sem, Int.reduceToNat, List.take_nil, Nat.zero_mul, Nat.reduceEqDiff, Nat.reduceAdd, Nat.reduceLT, Nat.reduceLeDiff, Nat.reduceMul, ↓reduceIte, reduceCtorEq]
        refine loop_count S.length (fun k => ⟨[(3, .sl 1 0 S.length cap), (15, .i .i64 k)], [.ro (encByte.row C), .rw ty_impl_Task (encTask.row S) (cap * 3)]⟩) (fun _ => True) trivial (Wk.pick [0, 1]) fun k hk _ => ?_
        simp only [l0_laws_FnMoreCores, not_true_eq_false, not_false_eq_true, decide_true, decide_false, Bool.not_true, Bool.not_false, false_implies, true_implies, and_true, true_and, Bool.false_eq_true, Bool.true_eq_false, implies_true, Bool.not_not, Classical.not_not, go_sem, Int.reduceToNat, List.take_nil, Nat.zero_mul, Nat.reduceEqDiff, Nat.reduceAdd, Nat.reduceLT, Nat.reduceLeDiff, Nat.reduceMul, ↓reduceIte, reduceCtorEq]
        refine impl_SetValid_ (L := S) (by omega) (Rd.own rfl) ?_
        simp only [not_true_eq_false, not_false_eq_true, decide_true, decide_false, Bool.not_true, Bool.not_false, false_implies, true_implies, and_true, true_and, Bool.false_eq_true, Bool.true_eq_false, implies_true, Bool.not_not, Classical.not_not, go_sem, Int.reduceToNat, List.take_nil, Nat.zero_mul, Nat.reduceEqDiff, Nat.reduceAdd, Nat.reduceLT, Nat.reduceLeDiff, Nat.reduceMul, ↓reduceIte, reduceCtorEq]
        refine ⟨fun hS => ⟨fun hlt => ?_, fun hge => ?_⟩, fun hS => ?_⟩
        · refine laws_without_ hlt (by omega) (Rd.own rfl) fun c4 h4 => ?_
          have hel := (List.eraseIdx_sublist S k).length_le
          simp only [not_true_eq_false, not_false_eq_true, decide_true, decide_false, Bool.not_true, Bool.not_false, false_implies, true_implies, and_true, true_and, Bool.false_eq_true, Bool.true_eq_false, implies_true, Bool.not_not, Classical.not_not, go_sem, Int.reduceToNat, List.take_nil, Nat.zero_mul, Nat.reduceEqDiff, Nat.reduceAdd, Nat.reduceLT, Nat.reduceLeDiff, Nat.reduceMul, ↓reduceIte, reduceCtorEq]
          refine impl_MinCores_ (S := S.eraseIdx k) (by omega) (Rd.own rfl) fun r' hr' => ?_
          simp only [not_true_eq_false, not_false_eq_true, decide_true, decide_false, Bool.not_true, Bool.not_false, false_implies, true_implies, and_true, true_and, Bool.false_eq_true, Bool.true_eq_false, implies_true, Bool.not_not, Classical.not_not, go_sem, Int.reduceToNat, List.take_nil, Nat.zero_mul, Nat.reduceEqDiff, Nat.reduceAdd, Nat.reduceLT, Nat.reduceLeDiff, Nat.reduceMul, ↓reduceIte, reduceCtorEq]
          refine impl_MinCores_ (S := S) (by omega) (Rd.own rfl) fun r hr => ?_
          have := min_erase hlt hr hr' hS
          simp only [not_true_eq_false, not_false_eq_true, decide_true, decide_false, Bool.not_true, Bool.not_false, false_implies, true_implies, and_true, true_and, Bool.false_eq_true, Bool.true_eq_false, implies_true, Bool.not_not, Classical.not_not, go_sem, Int.reduceToNat, List.take_nil, Nat.zero_mul, Nat.reduceEqDiff, Nat.reduceAdd, Nat.reduceLT, Nat.reduceLeDiff, Nat.reduceMul, ↓reduceIte, reduceCtorEq]
          exact ⟨fun h => absurd h (by omega), fun _ => ⟨by omega, hlt, Wk.pick [0, 1]⟩⟩
        · refine laws_alive_ ?_
          simp only [not_true_eq_false, not_false_eq_true, decide_true, decide_false, Bool.not_true, Bool.not_false, false_implies, true_implies, and_true, true_and, Bool.false_eq_true, Bool.true_eq_false, implies_true, Bool.not_not, Classical.not_not, go_sem, Int.reduceToNat, List.take_nil, Nat.zero_mul, Nat.reduceEqDiff, Nat.reduceAdd, Nat.reduceLT, Nat.reduceLeDiff, Nat.reduceMul, ↓reduceIte, reduceCtorEq]
          exact Fin.plain rfl
        · refine laws_alive_ ?_
          simp only [not_true_eq_false, not_false_eq_true, decide_true, decide_false, Bool.not_true, Bool.not_false, false_implies, true_implies, and_true, true_and, Bool.false_eq_true, Bool.true_eq_false, implies_true, Bool.not_not, Classical.not_not, go_sem, Int.reduceToNat, List.take_nil, Nat.zero_mul, Nat.reduceEqDiff, Nat.reduceAdd, Nat.reduceLT, Nat.reduceLeDiff, Nat.reduceMul, ↓reduceIte, reduceCtorEq]
          exact Fin.plain rfl
  · simp only [go_sem, Int.reduceToNat, List.take_nil, Nat.zero_mul, Nat.reduceEqDiff, Nat.reduceAdd, Nat.reduceLT, Nat.reduceLeDiff, Nat.reduceMul, ↓reduceIte, reduceCtorEq]
    refine spec_FirstFit_ (S := S) (by omega) (Rd.own rfl) fun x τ hx => ?_
    rcases hx with ⟨A', c2, r2, rfl, rfl, hok, hA'⟩ | ⟨rfl, rfl, _⟩
    · have := (hA'.same (hno hok)).1; cases this
    simp only [not_true_eq_false, not_false_eq_true, decide_true, decide_false, Bool.not_true, Bool.not_false, false_implies, true_implies, and_true, true_and, Bool.false_eq_true, Bool.true_eq_false, implies_true, Bool.not_not, Classical.not_not, go_sem, Int.reduceToNat, List.take_nil, Nat.zero_mul, Nat.reduceEqDiff, Nat.reduceAdd, Nat.reduceLT, Nat.reduceLeDiff, Nat.reduceMul, ↓reduceIte, reduceCtorEq]
    refine laws_sameInts_ (L := []) (M := []) (by simp) (Rd.nul (by simp)) (Rd.empty rfl) ?_
    simp only [not_true_eq_false, not_false_eq_true, decide_true, decide_false, Bool.not_true, Bool.not_false, false_implies, true_implies, and_true, true_and, Bool.false_eq_true, Bool.true_eq_false, implies_true, Bool.not_not, Classical.not_not, go_sem, Int.reduceToNat, List.take_nil, Nat.zero_mul, Nat.reduceEqDiff, Nat.reduceAdd, Nat.reduceLT, Nat.reduceLeDiff, Nat.reduceMul, ↓reduceIte, reduceCtorEq]
    refine impl_Partition_ (S := S) (by omega) (Rd.own rfl) fun x τ hx => ?_
    rcases hx with ⟨B, c3, r3, rfl, rfl, hokB, hB⟩ | ⟨rfl, rfl, hnB⟩
    all_goals
      simp only [not_true_eq_false, not_false_eq_true, decide_true, decide_false, Bool.not_true, Bool.not_false, false_implies, true_implies, and_true, true_and, Bool.false_eq_true, Bool.true_eq_false, implies_true, Bool.not_not, Classical.not_not, go_sem, Int.reduceToNat, List.take_nil, Nat.zero_mul, Nat.reduceEqDiff, Nat.reduceAdd, Nat.reduceLT, Nat.reduceLeDiff, Nat.reduceMul, ↓reduceIte, reduceCtorEq]
      refine seq_join (fun _ : Unit => ⟨[(3, .sl 1 0 S.length cap)], [.ro (encByte.row C), .rw ty_impl_Task (encTask.row S) (cap * 3)]⟩) (fun _ => True) ?_ fun _ _ => ?_
      · simp only [not_true_eq_false, not_false_eq_true, decide_true, decide_false, Bool.not_true, Bool.not_false, false_implies, true_implies, and_true, true_and, Bool.false_eq_true, Bool.true_eq_false, implies_true, Bool.not_not, Classical.not_not, go_sem, Int.reduceToNat, List.take_nil, Nat.zero_mul, Nat.reduceEqDiff, Nat.reduceAdd, Nat.reduceLT, Nat.reduceLeDiff, Nat.reduceMul, ↓reduceIte, reduceCtorEq]
        refine ⟨fun h5 => ⟨fun h0 => ⟨by omega, ?_⟩, fun h0 => kJ_intro () trivial (Wk.pick [0, 1])⟩, fun h5 => kJ_intro () trivial (Wk.pick [0, 1])⟩
        refine impl_FirstFit_ (S := S) (by omega) (Rd.own rfl) fun x τ hx => ?_
        rcases hx with ⟨A2, c5, r5, rfl, rfl, _, hA2⟩ | ⟨rfl, rfl, hno2⟩
        all_goals
          simp only [not_true_eq_false, not_false_eq_true, decide_true, decide_false, Bool.not_true, Bool.not_false, false_implies, true_implies, and_true, true_and, Bool.false_eq_true, Bool.true_eq_false, implies_true, Bool.not_not, Classical.not_not, go_sem, Int.reduceToNat, List.take_nil, Nat.zero_mul, Nat.reduceEqDiff, Nat.reduceAdd, Nat.reduceLT, Nat.reduceLeDiff, Nat.reduceMul, ↓reduceIte, reduceCtorEq]
          refine ⟨by omega, ?_⟩
          refine impl_Partition_ (S := S) (by omega) (Rd.own rfl) fun x τ hx => ?_
          rcases hx with ⟨B2, c6, r6, rfl, rfl, _, hB2⟩ | ⟨rfl, rfl, hnB2⟩
          all_goals
            simp only [not_true_eq_false, not_false_eq_true, decide_true, decide_false, Bool.not_true, Bool.not_false, false_implies, true_implies, and_true, true_and, Bool.false_eq_true, Bool.true_eq_false, implies_true, Bool.not_not, Classical.not_not, go_sem, Int.reduceToNat, List.take_nil, Nat.zero_mul, Nat.reduceEqDiff, Nat.reduceAdd, Nat.reduceLT, Nat.reduceLeDiff, Nat.reduceMul, ↓reduceIte, reduceCtorEq]
            first
              | exact kJ_intro () trivial (Wk.pick [0, 1])
              | (exfalso
                 obtain ⟨B3, h3⟩ := part_more (show m ≤ m + 1 by omega) hB (by omega)
                 rw [hnB2 ⟨hokB.1, by omega, by omega⟩] at h3
                 cases h3)
      · simp only [not_true_eq_false, not_false_eq_true, decide_true, decide_false, Bool.not_true, Bool.not_false, false_implies, true_implies, and_true, true_and, Bool.false_eq_true, Bool.true_eq_false, implies_true, Bool.not_not, Classical.not_not, go_sem, Int.reduceToNat, List.take_nil, Nat.zero_mul, Nat.reduceEqDiff, Nat.reduceAdd, Nat.reduceLT, Nat.reduceLeDiff, Nat.reduceMul, ↓reduceIte, reduceCtorEq]
        refine loop_count S.length (fun k => ⟨[(3, .sl 1 0 S.length cap), (15, .i .i64 k)], [.ro (encByte.row C), .rw ty_impl_Task (encTask.row S) (cap * 3)]⟩) (fun _ => True) trivial (Wk.pick [0, 1]) fun k hk _ => ?_
        simp only [l0_laws_FnMoreCores, not_true_eq_false, not_false_eq_true, decide_true, decide_false, Bool.not_true, Bool.not_false, false_implies, true_implies, and_true, true_and, Bool.false_eq_true, Bool.true_eq_false, implies_true, Bool.not_not, Classical.not_not, go_sem, Int.reduceToNat, List.take_nil, Nat.zero_mul, Nat.reduceEqDiff, Nat.reduceAdd, Nat.reduceLT, Nat.reduceLeDiff, Nat.reduceMul, ↓reduceIte, reduceCtorEq]
        refine impl_SetValid_ (L := S) (by omega) (Rd.own rfl) ?_
        simp only [not_true_eq_false, not_false_eq_true, decide_true, decide_false, Bool.not_true, Bool.not_false, false_implies, true_implies, and_true, true_and, Bool.false_eq_true, Bool.true_eq_false, implies_true, Bool.not_not, Classical.not_not, go_sem, Int.reduceToNat, List.take_nil, Nat.zero_mul, Nat.reduceEqDiff, Nat.reduceAdd, Nat.reduceLT, Nat.reduceLeDiff, Nat.reduceMul, ↓reduceIte, reduceCtorEq]
        refine ⟨fun hS => ⟨fun hlt => ?_, fun hge => ?_⟩, fun hS => ?_⟩
        · refine laws_without_ hlt (by omega) (Rd.own rfl) fun c4 h4 => ?_
          have hel := (List.eraseIdx_sublist S k).length_le
          simp only [not_true_eq_false, not_false_eq_true, decide_true, decide_false, Bool.not_true, Bool.not_false, false_implies, true_implies, and_true, true_and, Bool.false_eq_true, Bool.true_eq_false, implies_true, Bool.not_not, Classical.not_not, go_sem, Int.reduceToNat, List.take_nil, Nat.zero_mul, Nat.reduceEqDiff, Nat.reduceAdd, Nat.reduceLT, Nat.reduceLeDiff, Nat.reduceMul, ↓reduceIte, reduceCtorEq]
          refine impl_MinCores_ (S := S.eraseIdx k) (by omega) (Rd.own rfl) fun r' hr' => ?_
          simp only [not_true_eq_false, not_false_eq_true, decide_true, decide_false, Bool.not_true, Bool.not_false, false_implies, true_implies, and_true, true_and, Bool.false_eq_true, Bool.true_eq_false, implies_true, Bool.not_not, Classical.not_not, go_sem, Int.reduceToNat, List.take_nil, Nat.zero_mul, Nat.reduceEqDiff, Nat.reduceAdd, Nat.reduceLT, Nat.reduceLeDiff, Nat.reduceMul, ↓reduceIte, reduceCtorEq]
          refine impl_MinCores_ (S := S) (by omega) (Rd.own rfl) fun r hr => ?_
          have := min_erase hlt hr hr' hS
          simp only [not_true_eq_false, not_false_eq_true, decide_true, decide_false, Bool.not_true, Bool.not_false, false_implies, true_implies, and_true, true_and, Bool.false_eq_true, Bool.true_eq_false, implies_true, Bool.not_not, Classical.not_not, go_sem, Int.reduceToNat, List.take_nil, Nat.zero_mul, Nat.reduceEqDiff, Nat.reduceAdd, Nat.reduceLT, Nat.reduceLeDiff, Nat.reduceMul, ↓reduceIte, reduceCtorEq]
          exact ⟨fun h => absurd h (by omega), fun _ => ⟨by omega, hlt, Wk.pick [0, 1]⟩⟩
        · refine laws_alive_ ?_
          simp only [not_true_eq_false, not_false_eq_true, decide_true, decide_false, Bool.not_true, Bool.not_false, false_implies, true_implies, and_true, true_and, Bool.false_eq_true, Bool.true_eq_false, implies_true, Bool.not_not, Classical.not_not, go_sem, Int.reduceToNat, List.take_nil, Nat.zero_mul, Nat.reduceEqDiff, Nat.reduceAdd, Nat.reduceLT, Nat.reduceLeDiff, Nat.reduceMul, ↓reduceIte, reduceCtorEq]
          exact Fin.plain rfl
        · refine laws_alive_ ?_
          simp only [not_true_eq_false, not_false_eq_true, decide_true, decide_false, Bool.not_true, Bool.not_false, false_implies, true_implies, and_true, true_and, Bool.false_eq_true, Bool.true_eq_false, implies_true, Bool.not_not, Classical.not_not, go_sem, Int.reduceToNat, List.take_nil, Nat.zero_mul, Nat.reduceEqDiff, Nat.reduceAdd, Nat.reduceLT, Nat.reduceLeDiff, Nat.reduceMul, ↓reduceIte, reduceCtorEq]
          exact Fin.plain rfl
theorem c_FnMoreCores (C : List Nat) (c : Nat) (hC : ∀ x ∈ C, x < 256) (_ : C.length * 1 ≤ 140737488351232) (hc : C.length ≤ c) :
    CallWp Try.prog n_laws_FnMoreCores [.sl 0 0 C.length c] [.ro (encByte.row C)] (fun x _ => x = .b true) := laws_FnMoreCores0 C hC c hc
end Go.Proofs.Ytfngcejaphhmmaa
