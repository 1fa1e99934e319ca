import Derived.Test.YtfngcejaphhmmaaGreatDoorS30
namespace Go.Proofs.YtfngcejaphhmmaaGreatDoor
open Go.Abs Go.Ds
set_option linter.unusedSimpArgs false
set_option linter.unusedVariables false
set_option maxRecDepth 20000
set_option maxHeartbeats 2000000
def SeaR (S : List Task) (M n : Nat) (A : List Int) (σ : List AB) (q : Nat) (x : AV) (τ : List AB) : Prop :=
  (∃ (B : List Int) (r c room : Nat), dfs S M n A = some B ∧ x = .tup [.sl r 0 B.length c, .b true] ∧ (σ ++ τ)[r]? = some (.rw ty_int (encInt.row B) room) ∧ (σ.length ≤ r ∨ r = q)) ∨
  (dfs S M n A = none ∧ ∃ r, x = .tup [.sl r 0 0 0, .b false] ∧ (σ ++ τ)[r]? = some (.rw ty_int [] 0) ∧ σ.length ≤ r)
theorem cells_rw {σ : List AB} {n r : Nat} {ty : TypeId} {cs : List AV} (h : σ[n]? = some (.rw ty cs r)) : cellsOf σ n = some cs := by simp [cellsOf, h]
theorem spec_l7Search_ (S : List Task) (hS : setOk S) (M : Nat) (hM : M ≤ 5) : ∀ (n : Nat) (A : List Int) (σ : List AB) (p c q c' room : Nat), A.length + n = S.length → (∀ x ∈ A, 0 ≤ x ∧ x ≤ 10) → cellsOf σ p = some (encTask.row S) → σ[q]? = some (.rw ty_int (encInt.row A) room) →
    ∀ {K : AV → List AB → Prop}, (∀ x τ, SeaR S M n A σ q x τ → K x (σ ++ τ)) → CallWp Tryz.prog n_spec_l7Search [.sl p 0 S.length c, .i .i64 M, .sl q 0 A.length c'] σ K := by
  have h5 := hS.1
  intro n
  induction n with
  | zero =>
    intro A σ p c q c' room hl hA hp hq K hk
    refine call_spec_l7Search (by simp) ?_
    simp only [c_spec_l7Search, not_true_eq_false, not_false_eq_true, decide_true, decide_false, Bool.not_true, Bool.not_false, false_implies, true_implies, and_true, true_and, Bool.false_eq_true, Bool.true_eq_false, implies_true, Bool.not_not, Classical.not_not, go_sem, Int.reduceToNat, List.take_nil, Nat.zero_mul, Nat.reduceEqDiff, Nat.reduceAdd, Nat.reduceLT, Nat.reduceLeDiff, Nat.reduceMul, ↓reduceIte, reduceCtorEq]
    refine ⟨fun _ => Fin.plain ?_, fun h => absurd (by omega) h⟩
    have := hk (.tup [.sl q 0 A.length c', .b true]) [] (.inl ⟨A, q, c', room, rfl, rfl, by simpa using hq, .inr rfl⟩)
    simpa using this
  | succ n ih =>
    intro A σ p c q c' room hl hA hp hq K hk
    have hqc := cells_rw hq
    have hpl := cells_lt hp
    have hql := cells_lt hqc
    have hlt : A.length < S.length := by omega
    refine callC_spec_l7Search (by simp) fun hC hArg => ?_
    simp only [c_spec_l7Search, not_true_eq_false, not_false_eq_true, decide_true, decide_false, Bool.not_true, Bool.not_false, false_implies, true_implies, and_true, true_and, Bool.false_eq_true, Bool.true_eq_false, implies_true, Bool.not_not, Classical.not_not, go_sem, Int.reduceToNat, List.take_nil, Nat.zero_mul, Nat.reduceEqDiff, Nat.reduceAdd, Nat.reduceLT, Nat.reduceLeDiff, Nat.reduceMul, ↓reduceIte, reduceCtorEq]
    refine ⟨fun h => absurd h (by omega), fun _ => ?_⟩
    refine loop_count A.length (fun k => ⟨[(0, .sl p 0 S.length c), (1, .i .i64 M), (2, .sl q 0 A.length c'), (8, .i .i64 A.length), (9, .i .i64 (topN (A.take k) : Nat)), (10, .i .i64 k)], σ⟩) (fun _ => True) trivial (Wk.keep (by simp [look_cons, topN])) fun k hk' _ => ?_
    simp only [l1_spec_l7Search, not_true_eq_false, not_false_eq_true, decide_true, decide_false, Bool.not_true, Bool.not_false, false_implies, true_implies, and_true, true_and, Bool.false_eq_true, Bool.true_eq_false, implies_true, Bool.not_not, Classical.not_not, go_sem, Int.reduceToNat, List.take_nil, Nat.zero_mul, Nat.reduceEqDiff, Nat.reduceAdd, Nat.reduceLT, Nat.reduceLeDiff, Nat.reduceMul, ↓reduceIte, reduceCtorEq]
    refine ⟨fun hkl => ?_, fun hkg => ?_⟩
    · have hx := hA _ (List.getElem_mem hkl)
      have htop : topN (A.take (k + 1)) = max (topN (A.take k)) (A[k].toNat + 1) := by rw [List.take_succ_eq_append_getElem hkl, topN_snoc]
      have hmx : (if (topN (A.take k) : Int) < A[k] + 1 then A[k] + 1 else (topN (A.take k) : Int)) = ((topN (A.take (k + 1)) : Nat) : Int) := by rw [htop]; split <;> omega
      simp only [onC_of hqc, rdI hkl, lenI, hmx, not_true_eq_false, not_false_eq_true, decide_true, decide_false, Bool.not_true, Bool.not_false, false_implies, true_implies, and_true, true_and, Bool.false_eq_true, Bool.true_eq_false, implies_true, Bool.not_not, Classical.not_not, go_sem, Int.reduceToNat, List.take_nil, Nat.zero_mul, Nat.reduceEqDiff, Nat.reduceAdd, Nat.reduceLT, Nat.reduceLeDiff, Nat.reduceMul, ↓reduceIte, reduceCtorEq]
      refine ⟨hkl, hkl, by omega, by omega, hkl, Wk.keep (by simp [look_cons])⟩
    · have ek : k = A.length := by omega
      subst ek
      rw [List.take_length]
      have hd : dfs S M (n + 1) A = (List.range (min M (topN A + 1))).findSome? fun (c : Nat) => if feas (onC S (A ++ [(c : Int)]) c (A.length + 1)) then dfs S M n (A ++ [(c : Int)]) else none := rfl
      generalize hg : (fun (c : Nat) => if feas (onC S (A ++ [(c : Int)]) c (A.length + 1)) then dfs S M n (A ++ [(c : Int)]) else none) = g at hd
      have hg' := fun k => congrFun hg k
      have htop : topN A ≤ 11 := by
        have key : ∀ (L : List Int), (∀ x ∈ L, 0 ≤ x ∧ x ≤ 10) → ∀ a, a ≤ 11 → L.foldl (fun t a => max t (a.toNat + 1)) a ≤ 11 := by
          intro L
          induction L with
          | nil => intro _ a h; exact h
          | cons y L ihL =>
            intro h a ha
            have := h y (List.mem_cons_self ..)
            exact ihL (fun x hx => h x (List.mem_cons_of_mem _ hx)) _ (by show max a (y.toNat + 1) ≤ 11; omega)
        exact key A hA 0 (by omega)
      have hN : (if (topN A : Int) + 1 < (M : Int) then (topN A : Int) + 1 else (M : Int)) = ((min M (topN A + 1) : Nat) : Int) := by split <;> omega
      generalize hNN : min M (topN A + 1) = N at hd hN
      have gt : gT S A.length = S[A.length] := by simp [gT, List.getD_eq_getElem?_getD, hlt]
      refine loop_count N (fun k => ⟨[(0, .sl p 0 S.length c), (1, .i .i64 M), (2, .sl q 0 A.length c'), (8, .i .i64 A.length), (9, .i .i64 (topN A : Nat)), (11, .i .i64 k)], σ⟩) (fun k => ∀ j, j < k → g j = none) (fun j hj => absurd hj (Nat.not_lt_zero j)) (Wk.keep (by simp [look_cons])) fun k hk' hJ => ?_
      simp only [l0_spec_l7Search, hN, not_true_eq_false, not_false_eq_true, decide_true, decide_false, Bool.not_true, Bool.not_false, false_implies, true_implies, and_true, true_and, Bool.false_eq_true, Bool.true_eq_false, implies_true, Bool.not_not, Classical.not_not, go_sem, Int.reduceToNat, List.take_nil, Nat.zero_mul, Nat.reduceEqDiff, Nat.reduceAdd, Nat.reduceLT, Nat.reduceLeDiff, Nat.reduceMul, ↓reduceIte, reduceCtorEq]
      refine ⟨by omega, fun hkN => ?_, fun hkN => ?_⟩
      · have hgk := hg' k
        have hsub := onC_next A (k : Int) hlt
        have hok := setOk_sub hsub hS
        have eF : onC S (A ++ [(k : Int)]) k (A.length + 1) = onC S A k A.length ++ [S[A.length]] := by
          rw [onC_snoc _ hlt (by simp), gI_end, if_pos rfl, gt, onC_congr (A' := A) (c' := (k : Int)) A.length (by omega) (by simp) (by omega) fun i hi => by rw [gI_left hi]]
        rw [eF] at hgk
        have hstep : ∀ j, j < k + 1 → g k = none → g j = none := fun j hj h => by
          rcases Nat.lt_or_eq_of_le (Nat.le_of_lt_succ hj) with h1 | rfl
          · exact hJ j h1
          · exact h
        refine seq_join (fun _ : Unit => ⟨[(0, .sl p 0 S.length c), (1, .i .i64 M), (2, .sl q 0 A.length c'), (8, .i .i64 A.length), (9, .i .i64 (topN A : Nat)), (11, .i .i64 k)], σ⟩) (fun _ => feas (onC S A k A.length ++ [S[A.length]])) ?_ fun _ hf => ?_
        · refine seq_join (fun _ : Unit => ⟨[(0, .sl p 0 S.length c), (1, .i .i64 M), (2, .sl q 0 A.length c'), (8, .i .i64 A.length), (9, .i .i64 (topN A : Nat)), (11, .i .i64 k), (52, .b (decide (¬ feas (onC S A k A.length ++ [S[A.length]]))))], σ⟩) (fun _ => True) ?_ fun _ _ => ?_
          · simp only [onC_of hp, winT hlt, encTf, lenT, not_true_eq_false, not_false_eq_true, decide_true, decide_false, Bool.not_true, Bool.not_false, false_implies, true_implies, and_true, true_and, Bool.false_eq_true, Bool.true_eq_false, implies_true, Bool.not_not, Classical.not_not, go_sem, Int.reduceToNat, List.take_nil, Nat.zero_mul, Nat.reduceEqDiff, Nat.reduceAdd, Nat.reduceLT, Nat.reduceLeDiff, Nat.reduceMul, ↓reduceIte, reduceCtorEq]
            refine ⟨hlt, by omega, spec_l7On_ (S := S) (A := A) k (by omega) (by omega) (Rd.own hp) (Rd.own hqc) fun x τ hx => ?_, spec_l7On_ (S := S) (A := A) k (by omega) (by omega) (Rd.own hp).app (Rd.own hqc).app fun x τ hx => ?_⟩
            all_goals
              have hlen := hsub.length_le
              rw [List.length_append, List.length_singleton] at hlen
              generalize onC S A k A.length = M' at *
              obtain ⟨c1, rfl, hc1, rfl⟩ := hx
              simp only [onC_of hp, onC_old hp, winT hlt, encTf, lenT, List.append_assoc, at_new, at_new0, set_new, set_new0, List.length_append, List.length_singleton, not_true_eq_false, not_false_eq_true, decide_true, decide_false, Bool.not_true, Bool.not_false, false_implies, true_implies, and_true, true_and, Bool.false_eq_true, Bool.true_eq_false, implies_true, Bool.not_not, Classical.not_not, go_sem, Int.reduceToNat, List.take_nil, Nat.zero_mul, Nat.reduceEqDiff, Nat.reduceAdd, Nat.reduceLT, Nat.reduceLeDiff, Nat.reduceMul, ↓reduceIte, reduceCtorEq]
              refine ⟨by omega, by omega, fun cap hcap => ⟨by omega, ?_⟩⟩
              have e3 : List.take (M'.length * 3) (encTask.row M') ++ [AV.i IntKind.i64 S[A.length].C, AV.i IntKind.i64 S[A.length].D, AV.i IntKind.i64 S[A.length].P] = encTask.row (M' ++ [S[A.length]]) := by
                simp only [takeT, appT]
              rw [e3]
              refine spec_l2Edf_ (S := M' ++ [S[A.length]]) hok (Rd.owL (by simp [cellsOf]) (by simp)) ?_
              simp only [onC_of hp, onC_old hp, winT hlt, encTf, lenT, List.append_assoc, at_new, at_new0, set_new, set_new0, not_true_eq_false, not_false_eq_true, decide_true, decide_false, Bool.not_true, Bool.not_false, false_implies, true_implies, and_true, true_and, Bool.false_eq_true, Bool.true_eq_false, implies_true, Bool.not_not, Classical.not_not, go_sem, Int.reduceToNat, List.take_nil, Nat.zero_mul, Nat.reduceEqDiff, Nat.reduceAdd, Nat.reduceLT, Nat.reduceLeDiff, Nat.reduceMul, ↓reduceIte, reduceCtorEq]
              refine ⟨by omega, kJ_intro () trivial (Wk.drop hC (Nat.le_refl _) ?_)⟩
              simp [look_cons, Go.Abs.belowT, Go.Abs.below1, Go.Abs.below, hpl, hql]
          · simp only [not_true_eq_false, not_false_eq_true, decide_true, decide_false, Bool.not_true, Bool.not_false, false_implies, true_implies, and_true, true_and, Bool.false_eq_true, Bool.true_eq_false, implies_true, Bool.not_not, Classical.not_not, go_sem, Int.reduceToNat, List.take_nil, Nat.zero_mul, Nat.reduceEqDiff, Nat.reduceAdd, Nat.reduceLT, Nat.reduceLeDiff, Nat.reduceMul, ↓reduceIte, reduceCtorEq]
            refine ⟨fun hf => ?_, fun hf => kJ_intro () hf (Wk.keep (by simp [look_cons]))⟩
            rw [if_neg hf] at hgk
            exact ⟨by omega, ⟨hkN, fun j hj => hstep j hj hgk.symm⟩, Wk.keep (by simp [look_cons])⟩
        · simp only [if_pos hf] at hgk
          simp only [onC_of hqc, onC_old hqc, List.append_assoc, at_new, at_new0, set_new, set_new0, lenI, not_true_eq_false, not_false_eq_true, decide_true, decide_false, Bool.not_true, Bool.not_false, false_implies, true_implies, and_true, true_and, Bool.false_eq_true, Bool.true_eq_false, implies_true, Bool.not_not, Classical.not_not, go_sem, Int.reduceToNat, List.take_nil, Nat.zero_mul, Nat.reduceEqDiff, Nat.reduceAdd, Nat.reduceLT, Nat.reduceLeDiff, Nat.reduceMul, ↓reduceIte, reduceCtorEq]
          have ew : Abs.win (encInt.row A) 0 A.length = encInt.row A := winI A
          have hA1 : (A ++ [(k : Int)]).length = A.length + 1 := by simp
          simp only [ew, takeI, appI, lenI]
          refine ⟨by omega, fun cap1 hcap1 => ⟨by omega, fun cap2 hcap2 => ?_⟩⟩
          rw [← hA1]
          refine ih (A ++ [(k : Int)]) _ p c (σ.length + 3) cap2 cap2 (by omega) (fun x hx => ?_) (cells_old hp _) (by simp) fun x τ hx => ?_
          · rcases List.mem_append.1 hx with hx | hx
            · exact hA x hx
            · rw [List.mem_singleton] at hx; omega
          · rcases hx with ⟨B, r, c3, room3, hB, rfl, hr, hrr⟩ | ⟨hB, r, rfl, hr, hrr⟩
            · rw [hB] at hgk
              simp only [not_true_eq_false, not_false_eq_true, decide_true, decide_false, Bool.not_true, Bool.not_false, false_implies, true_implies, and_true, true_and, Bool.false_eq_true, Bool.true_eq_false, implies_true, Bool.not_not, Classical.not_not, go_sem, Int.reduceToNat, List.take_nil, Nat.zero_mul, Nat.reduceEqDiff, Nat.reduceAdd, Nat.reduceLT, Nat.reduceLeDiff, Nat.reduceMul, ↓reduceIte, reduceCtorEq]
              have := hk (.tup [.sl r 0 B.length c3, .b true]) ([.dead, .dead, .rw ty_int [.i .i64 k] 1, .rw ty_int (encInt.row (A ++ [(k : Int)])) cap2] ++ τ) (.inl ⟨B, r, c3, room3, by rw [hd, range_first hJ hgk.symm hkN], rfl, by rw [← List.append_assoc]; exact hr, .inl (by
                rcases hrr with h | h
                · simp at h; omega
                · omega)⟩)
              rw [← List.append_assoc] at this
              exact Fin.plain this
            · rw [hB] at hgk
              simp only [not_true_eq_false, not_false_eq_true, decide_true, decide_false, Bool.not_true, Bool.not_false, false_implies, true_implies, and_true, true_and, Bool.false_eq_true, Bool.true_eq_false, implies_true, Bool.not_not, Classical.not_not, go_sem, Int.reduceToNat, List.take_nil, Nat.zero_mul, Nat.reduceEqDiff, Nat.reduceAdd, Nat.reduceLT, Nat.reduceLeDiff, Nat.reduceMul, ↓reduceIte, reduceCtorEq]
              refine ⟨by omega, ⟨hkN, fun j hj => hstep j hj hgk.symm⟩, ?_⟩
              rw [List.append_assoc]
              refine Wk.drop hC (Nat.le_refl _) ?_
              simp [look_cons, Go.Abs.belowT, Go.Abs.below1, Go.Abs.below, hpl, hql]
      · have ek : k = N := by omega
        subst ek
        exact Fin.plain (hk _ _ (.inr ⟨by rw [hd, range_none hJ], σ.length, rfl, by simp, Nat.le_refl _⟩))
def PaQ (N : Nat) (S : List Task) (m : Int) (x : AV) (τ : List AB) : Prop := (∃ (A : List Int) (c r : Nat), x = .tup [.sl N 0 A.length c, .b true] ∧ τ = [.rw ty_int (encInt.row A) r] ∧ coresOk S m ∧ part S m = some A) ∨
  (x = .tup [.sl N 0 0 0, .b false] ∧ τ = [.rw ty_int [] 0] ∧ (coresOk S m → part S m = none))
theorem PaQ.fr {N : Nat} {S : List Task} {m : Int} {x : AV} {τ : List AB} (h : PaQ N S m x τ) : τ.all plainRw = true ∧ freshA N x = true := by
  rcases h with ⟨A, c, r, rfl, rfl, _⟩ | ⟨rfl, rfl, _⟩
  · simp [plainRw, encInt.row_flat, freshA, fresh1A, freshC, flat]
  · simp [plainRw, freshA, fresh1A, freshC, flat]
theorem spec_MinCores0 (S : List Task) (hs : S.length ≤ 1048576) (c : Nat) : CallWp Tryz.prog n_spec_MinCores [.sl 0 0 S.length c] [.ro (encTask.row S)] (fun x σ' => ∃ τ, σ' = [.ro (encTask.row S)] ++ τ ∧ τ = [] ∧ ∃ r, x = .i .i64 r ∧ MinP S r) := by
  refine call_spec_MinCores (by simp) ?_
  simp only [c_spec_MinCores, go_sem, Int.reduceToNat, List.take_nil, Nat.zero_mul, Nat.reduceEqDiff, Nat.reduceAdd, Nat.reduceLT, Nat.reduceLeDiff, Nat.reduceMul, ↓reduceIte, reduceCtorEq]
  refine spec_SetValid_ (L := S) (by omega) (Rd.own rfl) ?_
  simp only [not_true_eq_false, not_false_eq_true, decide_true, decide_false, Bool.not_true, Bool.not_false, false_implies, true_implies, and_true, true_and, Bool.false_eq_true, Bool.true_eq_false, implies_true, Bool.not_not, Classical.not_not, go_sem, Int.reduceToNat, List.take_nil, Nat.zero_mul, Nat.reduceEqDiff, Nat.reduceAdd, Nat.reduceLT, Nat.reduceLeDiff, Nat.reduceMul, ↓reduceIte, reduceCtorEq]
  refine ⟨fun hS => Fin.plain ⟨_, rfl, rfl, _, rfl, .inl ⟨hS, rfl⟩⟩, fun hS => ?_⟩
  have hcl : Closed [AB.ro (encTask.row S)] := Closed.add (σ := []) (fun n B h => by simp at h) (by simp [Go.Abs.cellsIn, Go.Abs.Enc.row_bel])
  refine loop_count 4 (fun k => ⟨[(0, .sl 0 0 S.length c), (3, .i .i64 ((k : Int) + 1))], [.ro (encTask.row S)]⟩) (fun k => ∀ c : Int, 1 ≤ c → c < (k : Int) + 1 → part S c = none) (fun c h1 h2 => by omega) (Wk.pick [0]) fun k hk hJ => ?_
  simp only [l0_spec_MinCores, not_true_eq_false, not_false_eq_true, decide_true, decide_false, Bool.not_true, Bool.not_false, false_implies, true_implies, and_true, true_and, Bool.false_eq_true, Bool.true_eq_false, implies_true, Bool.not_not, Classical.not_not, go_sem, Int.reduceToNat, List.take_nil, Nat.zero_mul, Nat.reduceEqDiff, Nat.reduceAdd, Nat.reduceLT, Nat.reduceLeDiff, Nat.reduceMul, ↓reduceIte, reduceCtorEq]
  refine ⟨fun hlt => ?_, fun hge => ?_⟩
  · rw [show (k : Int) + 1 = ((k + 1 : Nat) : Int) by omega]
    refine spec_l7Search_ S hS (k + 1) (by omega) S.length [] _ 0 c 1 0 0 (by simp) (by simp) rfl rfl fun x τ hx => ?_
    rcases hx with ⟨B, r, c3, room3, hB, rfl, hr, hrr⟩ | ⟨hB, r, rfl, hr, hrr⟩
    · simp only [not_true_eq_false, not_false_eq_true, decide_true, decide_false, Bool.not_true, Bool.not_false, false_implies, true_implies, and_true, true_and, Bool.false_eq_true, Bool.true_eq_false, implies_true, Bool.not_not, Classical.not_not, go_sem, Int.reduceToNat, List.take_nil, Nat.zero_mul, Nat.reduceEqDiff, Nat.reduceAdd, Nat.reduceLT, Nat.reduceLeDiff, Nat.reduceMul, ↓reduceIte, reduceCtorEq]
      exact Fin.drop (σ := [.ro (encTask.row S)]) (τ := .rw ty_int [] 0 :: τ) hcl (Nat.le_refl _) rfl ⟨_, rfl, rfl, _, rfl, .inr ⟨hS, by omega, fun c h1 h2 => hJ c h1 (by omega), fun _ => ⟨B, hB⟩⟩⟩
    · simp only [not_true_eq_false, not_false_eq_true, decide_true, decide_false, Bool.not_true, Bool.not_false, false_implies, true_implies, and_true, true_and, Bool.false_eq_true, Bool.true_eq_false, implies_true, Bool.not_not, Classical.not_not, go_sem, Int.reduceToNat, List.take_nil, Nat.zero_mul, Nat.reduceEqDiff, Nat.reduceAdd, Nat.reduceLT, Nat.reduceLeDiff, Nat.reduceMul, ↓reduceIte, reduceCtorEq]
      refine ⟨by omega, ⟨by omega, fun c h1 h2 => ?_⟩, ?_⟩
      · by_cases e : c = ((k + 1 : Nat) : Int)
        · rw [e]; exact hB
        · exact hJ c h1 (by omega)
      · refine Wk.drop (σ := [.ro (encTask.row S)]) (τ := .rw ty_int [] 0 :: τ) hcl (Nat.le_refl _) ?_
        simp [look_cons, Go.Abs.belowT, Go.Abs.below1, Go.Abs.below]
  · exact Fin.plain ⟨_, rfl, rfl, _, rfl, .inr ⟨hS, by omega, fun c h1 h2 => hJ c h1 (by omega), fun h => absurd h (by decide)⟩⟩
theorem spec_MinCores_ {S : List Task} (hs : S.length ≤ 1048576) {v : AV} {σ : List AB} (h : Rd encTask σ v S) {K : AV → List AB → Prop} (hk : ∀ r, MinP S r → K (.i .i64 r) σ) : CallWp Tryz.prog n_spec_MinCores [v] σ K := by
  refine call_news _ (rds1 h.r) (fun c => [.sl 0 0 S.length (c 0)]) (fun x τ => τ = [] ∧ ∃ r, x = .i .i64 r ∧ MinP S r) (fun c => spec_MinCores0 S hs (c 0)) ?_ (fun ν c h => ⟨h.1, trivial⟩) (fun _ => rfl) ?_
  · rintro x τ ⟨rfl, r, rfl, _⟩; exact ⟨rfl, rfl⟩
  · rintro x τ ⟨rfl, r, rfl, h⟩
    rw [List.append_nil]; exact hk r h
end Go.Proofs.YtfngcejaphhmmaaGreatDoor
