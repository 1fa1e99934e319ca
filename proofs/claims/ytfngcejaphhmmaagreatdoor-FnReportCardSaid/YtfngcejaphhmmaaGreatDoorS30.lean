import Derived.Test.YtfngcejaphhmmaaGreatDoorS28
namespace Go.Proofs.YtfngcejaphhmmaaGreatDoor
open Go.Abs Go.Ds
set_option linter.unusedSimpArgs false
set_option linter.unusedVariables false
set_option maxRecDepth 20000
set_option maxHeartbeats 1000000
theorem call_mut2 {P : Program} {f : FuncId} {σ : List AB} {K : AV → List AB → Prop} {ty : TypeId} {a n len cap len0 cap0 r : Nat} {row row' row0 : List AV} {mid : AV} {rest : List AV} {v : AV} (ha : cellsOf σ a = some row0) (hb : σ[n]? = some (.rw ty row r)) (hne : a ≠ n)
    (hr0 : row0.all flat = true) (hr : row.all flat = true) (hr' : row'.all flat = true)
    (h : CallWp P f (.sl 0 0 len0 cap0 :: mid :: .sl 1 0 len cap :: rest) [.ro row0, .rw ty row r] fun x σ' => x = v ∧ σ' = [.ro row0, .rw ty row' r]) (hmid : flat1 mid = true) (hrest : rest.all flat1 = true) (hv : flat1 v = true) (hk : K v (σ.set n (.rw ty row' r))) :
    CallWp P f (.sl a 0 len0 cap0 :: mid :: .sl n 0 len cap :: rest) σ K := by
  have hn : n < σ.length := (List.getElem?_eq_some_iff.1 hb).1
  have hal := cells_lt ha
  refine call_frame (ν := fun k => if k = 0 then (a, 0) else (n, 0)) h ?_ ?_ ?_ ⟨.inl (by simp [ren1, renC]), ?_⟩ ?_
  · refine ⟨fun i C hi => ?_, ?_⟩
    · match i, hi with
      | 0, hi =>
        cases hi
        exact ⟨all_flat hr0, .inr ⟨row0, ha, by simp, by rw [map_flat hr0]; simp [Abs.win]⟩⟩
      | 1, hi =>
        cases hi
        exact ⟨all_flat hr, rfl, by rw [map_flat hr]; exact hb⟩
      | i + 2, hi => simp at hi
    · intro i C i' C' hi hc hi' _ hii
      match i, i', hi, hi' with
      | 0, _, hi, _ => cases hi; cases hc
      | 1, 0, _, _ => simpa using hne
      | 1, 1, _, _ => exact absurd rfl hii
      | i + 2, _, hi, _ => simp at hi
      | 1, i' + 2, _, hi' => simp at hi'
  · intro i hi
    match i, hi with
    | 0, _ => exact hal
    | 1, _ => exact hn
    | i + 2, hi => simp at hi; omega
  · simp only [List.all_cons, below1, below, Bool.and_eq_true]
    refine ⟨by simp, flat1_below hmid, by simp, ?_⟩
    rw [List.all_eq_true] at hrest ⊢
    exact fun x hx => flat1_below (hrest x hx)
  · refine (seesL_flat1 (l := [mid]) (by simp [hmid])).elim fun h1 _ => ⟨h1, .inl (by simp [ren1, renC]), seesL_flat1 hrest⟩
  · rintro x σ' _ ⟨rfl, rfl⟩
    refine ⟨?_, ?_⟩
    · intro i C hi hlt
      match i, hi with
      | 0, hi =>
        obtain ⟨B0, hB0, hw⟩ := hlt (by simp)
        cases hB0; cases hw
      | 1, hi => cases hi; rfl
      | i + 2, hi => simp at hi
    · have e1 : plug (fun k => if k = 0 then (a, 0) else (n, 0)) σ [.ro row0, .rw ty row r] [.ro row0, .rw ty row' r] = σ.set n (.rw ty row' r) := by
        simp [plug, updL, renB, map_flat hr']
      rw [e1, flat1_renT hv]
      exact hk
def left (S : List Task) (A : List Int) : Option (List Int) → List Int
  | some B => B
  | none => pad S A
theorem impl_search0 (S : List Task) (hS : setOk S) (M : Nat) (hM : M ≤ 5) (c c' r : Nat) : ∀ (n : Nat) (A : List Int), A.length + n = S.length → (topN A ≤ 10) → CallWp Tryz.prog n_impl_search [.sl 0 0 S.length c, .i .i64 M, .sl 1 0 S.length c', .i .i64 A.length, .i .i64 (topN A : Nat)] [.ro (encTask.row S), .rw ty_int (encInt.row (pad S A)) r]
    (fun x σ' => x = .b (dfs S M n A).isSome ∧ σ' = [.ro (encTask.row S), .rw ty_int (encInt.row (left S A (dfs S M n A))) r]) := by
  have h5 := hS.1
  intro n
  induction n with
  | zero =>
    intro A hl ht
    refine call_impl_search (by simp) ?_
    simp only [c_impl_search, not_true_eq_false, not_false_eq_true, decide_true, decide_false, Bool.not_true, Bool.not_false, false_implies, true_implies, and_true, true_and, Bool.false_eq_true, Bool.true_eq_false, implies_true, Bool.not_not, Classical.not_not, go_sem, Int.reduceToNat, List.take_nil, Nat.zero_mul, Nat.reduceEqDiff, Nat.reduceAdd, Nat.reduceLT, Nat.reduceLeDiff, Nat.reduceMul, ↓reduceIte, reduceCtorEq]
    refine ⟨fun _ => Fin.plain ⟨rfl, ?_⟩, fun h => absurd (by omega) h⟩
    simp only [dfs, left]
    rw [pad_all (by omega)]
  | succ n ih =>
    intro A hl ht
    refine call_impl_search (by simp) ?_
    simp only [c_impl_search, not_true_eq_false, not_false_eq_true, decide_true, decide_false, Bool.not_true, Bool.not_false, false_implies, true_implies, and_true, true_and, Bool.false_eq_true, Bool.true_eq_false, implies_true, Bool.not_not, Classical.not_not, go_sem, Int.reduceToNat, List.take_nil, Nat.zero_mul, Nat.reduceEqDiff, Nat.reduceAdd, Nat.reduceLT, Nat.reduceLeDiff, Nat.reduceMul, ↓reduceIte, reduceCtorEq]
    refine ⟨fun h => absurd h (by omega), fun _ => ?_⟩
    have hlt : A.length < S.length := by omega
    have hpl := pad_length (Nat.le_of_lt hlt)
    refine ⟨by omega, ?_⟩
    have hN : (if (topN A : Int) + 1 < (M : Int) then (topN A : Int) + 1 else (M : Int)) = ((min M (topN A + 1) : Nat) : Int) := by split <;> omega
    rw [hN]
    have hd : dfs S M (n + 1) A = (List.range (min M (topN A + 1))).findSome? fun (c : Nat) => if feas (onC S (A ++ [(c : Int)]) c (A.length + 1)) then dfs S M n (A ++ [(c : Int)]) else none := rfl
    generalize hg : (fun (c : Nat) => if feas (onC S (A ++ [(c : Int)]) c (A.length + 1)) then dfs S M n (A ++ [(c : Int)]) else none) = g at hd
    have hg' := fun k => congrFun hg k
    generalize hNN : min M (topN A + 1) = N at hd ⊢
    refine loop_intro (fun i : Nat × List Int => ⟨[(0, .sl 0 0 S.length c), (1, .i .i64 M), (2, .sl 1 0 S.length c'), (3, .i .i64 A.length), (4, .i .i64 (topN A : Nat)), (19, .i .i64 N), (20, .i .i64 i.1)], [.ro (encTask.row S), .rw ty_int (encInt.row (pad S i.2)) r]⟩)
      (fun i => i.1 ≤ N ∧ (i.2 = A ∨ ∃ x, i.2 = A ++ [x]) ∧ ∀ j, j < i.1 → g j = none) (fun i => N - i.1) (0, A) ⟨Nat.zero_le _, .inl rfl, fun j hj => absurd hj (Nat.not_lt_zero j)⟩ (Wk.keep (by simp [look_cons])) ?_
    rintro ⟨k, B⟩ ⟨hk, hB, hJ⟩
    simp only at hk hB hJ
    have hBl : B.length ≤ S.length := by
      rcases hB with rfl | ⟨x, rfl⟩
      · omega
      · rw [List.length_append, List.length_singleton]; omega
    have hplB := pad_length hBl
    have hpi : A.length < (pad S B).length := by omega
    simp only [l0_impl_search, splI hpi, pad_reset hlt hB, lenI, hplB, not_true_eq_false, not_false_eq_true, decide_true, decide_false, Bool.not_true, Bool.not_false, false_implies, true_implies, and_true, true_and, Bool.false_eq_true, Bool.true_eq_false, implies_true, Bool.not_not, Classical.not_not, go_sem, Int.reduceToNat, List.take_nil, Nat.zero_mul, Nat.reduceEqDiff, Nat.reduceAdd, Nat.reduceLT, Nat.reduceLeDiff, Nat.reduceMul, ↓reduceIte, reduceCtorEq]
    refine ⟨fun hkN => ?_, fun hkN => ?_⟩
    · have hA1 : (A ++ [(k : Int)]).length = A.length + 1 := by simp
      have hpl1 := pad_length (S := S) (A := A ++ [(k : Int)]) (by omega)
      have hpad := onC_pad (S := S) (A := A ++ [(k : Int)]) (c := k) (by omega) (by omega)
      rw [hA1] at hpad
      have hok := setOk_sub (onC_sub S (A ++ [(k : Int)]) k (A.length + 1)) hS
      have htop := topN_snoc A (k : Int)
      rw [Int.toNat_natCast] at htop
      have hgk := hg' k
      refine ⟨hlt, by omega, impl_onCore_ (S := S) (A := pad S (A ++ [(k : Int)])) k (by omega) (by omega) (Rd.own rfl) (Rd.owL rfl hpl1) fun x τ hx => ?_⟩
      rw [hpad] at hx
      have hr := hx.rd (by simp)
      simp only [not_true_eq_false, not_false_eq_true, decide_true, decide_false, Bool.not_true, Bool.not_false, false_implies, true_implies, and_true, true_and, Bool.false_eq_true, Bool.true_eq_false, implies_true, Bool.not_not, Classical.not_not, go_sem, Int.reduceToNat, List.take_nil, Nat.zero_mul, Nat.reduceEqDiff, Nat.reduceAdd, Nat.reduceLT, Nat.reduceLeDiff, Nat.reduceMul, ↓reduceIte, reduceCtorEq]
      refine ⟨hr.data, impl_feasible_ hok hr ?_⟩
      have hstep : ∀ j, j < k + 1 → g k = none → g j = none := fun j hj h => by
        rcases Nat.lt_or_eq_of_le (Nat.le_of_lt_succ hj) with h1 | rfl
        · exact hJ j h1
        · exact h
      rcases hx with ⟨_, rfl, rfl⟩ | ⟨c2, rfl, rfl⟩
      all_goals
        simp only [not_true_eq_false, not_false_eq_true, decide_true, decide_false, Bool.not_true, Bool.not_false, false_implies, true_implies, and_true, true_and, Bool.false_eq_true, Bool.true_eq_false, implies_true, Bool.not_not, Classical.not_not, go_sem, Int.reduceToNat, List.take_nil, Nat.zero_mul, Nat.reduceEqDiff, Nat.reduceAdd, Nat.reduceLT, Nat.reduceLeDiff, Nat.reduceMul, ↓reduceIte, reduceCtorEq]
        refine ⟨fun hf => ?_, fun hf => ?_⟩
        · simp only [hf, if_true] at hgk
          refine ⟨by omega, by omega, ?_⟩
          have hmx : (if (topN A : Int) < (k : Int) + 1 then (k : Int) + 1 else (topN A : Int)) = ((topN (A ++ [(k : Int)]) : Nat) : Int) := by rw [htop]; split <;> omega
          rw [hmx, show (A.length : Int) + 1 = (((A ++ [(k : Int)]).length : Nat) : Int) by rw [hA1]; omega]
          refine call_mut2 (row' := encInt.row (left S (A ++ [(k : Int)]) (dfs S M n (A ++ [(k : Int)])))) (v := .b (dfs S M n (A ++ [(k : Int)])).isSome) (a := 0) (n := 1) rfl rfl (by decide) (encTask.row_flat _) (encInt.row_flat _) (encInt.row_flat _) (ih (A ++ [(k : Int)]) (by omega) (by omega)) rfl rfl rfl ?_
          cases hdf : dfs S M n (A ++ [(k : Int)]) with
          | some B' =>
            rw [hdf] at hgk
            simp only [Option.isSome, left, not_true_eq_false, not_false_eq_true, decide_true, decide_false, Bool.not_true, Bool.not_false, false_implies, true_implies, and_true, true_and, Bool.false_eq_true, Bool.true_eq_false, implies_true, Bool.not_not, Classical.not_not, go_sem, Int.reduceToNat, List.take_nil, Nat.zero_mul, Nat.reduceEqDiff, Nat.reduceAdd, Nat.reduceLT, Nat.reduceLeDiff, Nat.reduceMul, ↓reduceIte, reduceCtorEq]
            refine Fin.pick [0, 1] (.b true) [.ro (encTask.row S), .rw ty_int (encInt.row B') r] ?_
            rw [hd, range_first hJ hgk.symm hkN]
            exact ⟨rfl, rfl⟩
          | none =>
            rw [hdf] at hgk
            simp only [Option.isSome, left, not_true_eq_false, not_false_eq_true, decide_true, decide_false, Bool.not_true, Bool.not_false, false_implies, true_implies, and_true, true_and, Bool.false_eq_true, Bool.true_eq_false, implies_true, Bool.not_not, Classical.not_not, go_sem, Int.reduceToNat, List.take_nil, Nat.zero_mul, Nat.reduceEqDiff, Nat.reduceAdd, Nat.reduceLT, Nat.reduceLeDiff, Nat.reduceMul, ↓reduceIte, reduceCtorEq]
            exact ⟨by omega, (k + 1, A ++ [(k : Int)]), ⟨⟨by simp only; omega, .inr ⟨_, rfl⟩, fun j hj => hstep j hj hgk.symm⟩, by simp only; omega⟩, Wk.pick [0, 1]⟩
        · simp only [hf, if_false] at hgk
          exact ⟨by omega, (k + 1, A ++ [(k : Int)]), ⟨⟨by simp only; omega, .inr ⟨_, rfl⟩, fun j hj => hstep j hj hgk.symm⟩, by simp only; omega⟩, Wk.pick [0, 1]⟩
    · have ek : k = N := by omega
      subst ek
      refine ⟨hlt, by omega, Fin.plain ?_⟩
      rw [hd, range_none hJ, ← pad_reset hlt hB, pad_clear hlt hB]
      exact ⟨rfl, rfl⟩
noncomputable def part (S : List Task) (m : Int) : Option (List Int) := dfs S m.toNat S.length []
def PaI (N : Nat) (S : List Task) (m : Int) (x : AV) (τ : List AB) : Prop := (∃ (A : List Int) (c r : Nat), x = .tup [.sl N 0 A.length c, .b true] ∧ τ = [.rw ty_int (encInt.row A) r] ∧ coresOk S m ∧ part S m = some A) ∨
  (x = .tup [.sn, .b false] ∧ τ = [] ∧ (coresOk S m → part S m = none))
theorem PaI.fr {N : Nat} {S : List Task} {m : Int} {x : AV} {τ : List AB} (h : PaI N S m x τ) : τ.all plainRw = true ∧ freshA N x = true := by
  rcases h with ⟨A, c, r, rfl, rfl, _⟩ | ⟨rfl, rfl, _⟩
  · simp [plainRw, encInt.row_flat, freshA, fresh1A, freshC, flat]
  · simp [plainRw, freshA, fresh1A, freshC, flat]
theorem impl_Partition0 (S : List Task) (hs : S.length ≤ 1048576) (m : Int) (c : Nat) : CallWp Tryz.prog n_impl_Partition [.sl 0 0 S.length c, .i .i64 m] [.ro (encTask.row S)] (fun x σ' => ∃ τ, σ' = [.ro (encTask.row S)] ++ τ ∧ PaI 1 S m x τ) := by
  refine call_impl_Partition (by simp) ?_
  simp only [c_impl_Partition, go_sem, Int.reduceToNat, List.take_nil, Nat.zero_mul, Nat.reduceEqDiff, Nat.reduceAdd, Nat.reduceLT, Nat.reduceLeDiff, Nat.reduceMul, ↓reduceIte, reduceCtorEq]
  refine impl_SetValid_ (L := S) (by omega) (Rd.own rfl) ?_
  simp only [not_true_eq_false, not_false_eq_true, decide_true, decide_false, Bool.not_true, Bool.not_false, false_implies, true_implies, and_true, true_and, Bool.false_eq_true, Bool.true_eq_false, implies_true, Bool.not_not, Classical.not_not, go_sem, Int.reduceToNat, List.take_nil, Nat.zero_mul, Nat.reduceEqDiff, Nat.reduceAdd, Nat.reduceLT, Nat.reduceLeDiff, Nat.reduceMul, ↓reduceIte, reduceCtorEq]
  have no : ¬ coresOk S m → Fin 1 [.ro (encTask.row S)] (.tup [.sn, .b false]) (fun x σ' => ∃ τ, σ' = .ro (encTask.row S) :: τ ∧ PaI 1 S m x τ) := fun hno =>
    Fin.plain ⟨_, rfl, .inr ⟨rfl, rfl, fun h => absurd h hno⟩⟩
  refine ⟨fun hS => impl_isCores_ _ ?_, fun hS => no fun h => hS h.1⟩
  simp only [not_true_eq_false, not_false_eq_true, decide_true, decide_false, Bool.not_true, Bool.not_false, false_implies, true_implies, and_true, true_and, Bool.false_eq_true, Bool.true_eq_false, implies_true, Bool.not_not, Classical.not_not, go_sem, Int.reduceToNat, List.take_nil, Nat.zero_mul, Nat.reduceEqDiff, Nat.reduceAdd, Nat.reduceLT, Nat.reduceLeDiff, Nat.reduceMul, ↓reduceIte, reduceCtorEq]
  refine ⟨fun hm => no fun h => hm h.2, fun hm => ?_⟩
  obtain ⟨M, rfl⟩ := Int.eq_ofNat_of_zero_le (show 0 ≤ m by omega)
  have h5 := hS.1
  refine impl_none_ S.length (by omega) fun c1 => ?_
  simp only [not_true_eq_false, not_false_eq_true, decide_true, decide_false, Bool.not_true, Bool.not_false, false_implies, true_implies, and_true, true_and, Bool.false_eq_true, Bool.true_eq_false, implies_true, Bool.not_not, Classical.not_not, go_sem, Int.reduceToNat, List.take_nil, Nat.zero_mul, Nat.reduceEqDiff, Nat.reduceAdd, Nat.reduceLT, Nat.reduceLeDiff, Nat.reduceMul, ↓reduceIte, reduceCtorEq]
  have e0 : List.replicate S.length (-1 : Int) = pad S [] := by simp [pad]
  rw [e0]
  have hb := impl_search0 S hS M (by omega) c c1 c1 S.length [] (by simp) (by simp [topN])
  refine hb.mono ?_
  rintro x σ' _ ⟨rfl, rfl⟩
  cases hd : dfs S M S.length [] with
  | some B =>
    have hl := (dfs_sound S.length [] (by simp) hd).1
    simp only [Option.isSome, left, not_true_eq_false, not_false_eq_true, decide_true, decide_false, Bool.not_true, Bool.not_false, false_implies, true_implies, and_true, true_and, Bool.false_eq_true, Bool.true_eq_false, implies_true, Bool.not_not, Classical.not_not, go_sem, Int.reduceToNat, List.take_nil, Nat.zero_mul, Nat.reduceEqDiff, Nat.reduceAdd, Nat.reduceLT, Nat.reduceLeDiff, Nat.reduceMul, ↓reduceIte, reduceCtorEq]
    rw [← hl]
    exact Fin.plain ⟨_, rfl, .inl ⟨B, _, _, rfl, rfl, ⟨hS, by omega, by omega⟩, hd⟩⟩
  | none =>
    simp only [Option.isSome, left, not_true_eq_false, not_false_eq_true, decide_true, decide_false, Bool.not_true, Bool.not_false, false_implies, true_implies, and_true, true_and, Bool.false_eq_true, Bool.true_eq_false, implies_true, Bool.not_not, Classical.not_not, go_sem, Int.reduceToNat, List.take_nil, Nat.zero_mul, Nat.reduceEqDiff, Nat.reduceAdd, Nat.reduceLT, Nat.reduceLeDiff, Nat.reduceMul, ↓reduceIte, reduceCtorEq]
    exact Fin.pick [0] (.tup [.sn, .b false]) [.ro (encTask.row S)] ⟨_, rfl, .inr ⟨rfl, rfl, fun _ => hd⟩⟩
theorem impl_Partition_ {S : List Task} (hs : S.length ≤ 1048576) {m : Int} {v : AV} {σ : List AB} (h : Rd encTask σ v S) {K : AV → List AB → Prop} (hk : ∀ x τ, PaI σ.length S m x τ → K x (σ ++ τ)) : CallWp Tryz.prog n_impl_Partition [v, .i .i64 m] σ K := by
  refine call_news _ (rds1 h.r) (fun c => [.sl 0 0 S.length (c 0), .i .i64 m]) (PaI 1 S m) (fun c => impl_Partition0 S hs m (c 0)) (fun _ _ h => h.fr) (fun ν c h => ⟨h.1, .inl rfl, trivial⟩) (fun _ => rfl) ?_
  rintro x τ (⟨A, c, r, rfl, rfl, h⟩ | ⟨rfl, rfl, h⟩)
  · exact hk _ _ (.inl ⟨A, c, r, rfl, rfl, h⟩)
  · exact hk _ _ (.inr ⟨rfl, rfl, h⟩)
def MinP (S : List Task) (r : Int) : Prop := (¬ setOk S ∧ r = 0) ∨ (setOk S ∧ (1 ≤ r ∧ r ≤ 5) ∧ (∀ c : Int, 1 ≤ c → c < r → part S c = none) ∧ (r < 5 → ∃ A, part S r = some A))
theorem MinP.same {S : List Task} {r r' : Int} (h : MinP S r) (h' : MinP S r') : r = r' := by
  rcases h with ⟨h1, h2⟩ | ⟨h1, h2, h3, h4⟩ <;> rcases h' with ⟨g1, g2⟩ | ⟨g1, g2, g3, g4⟩
  · omega
  · exact absurd g1 h1
  · exact absurd h1 g1
  · rcases Int.lt_trichotomy r r' with e | e | e
    · obtain ⟨A, hA⟩ := h4 (by omega)
      rw [g3 r h2.1 e] at hA; cases hA
    · exact e
    · obtain ⟨A, hA⟩ := g4 (by omega)
      rw [h3 r' g2.1 e] at hA; cases hA
theorem impl_MinCores0 (S : List Task) (hs : S.length ≤ 1048576) (c : Nat) : CallWp Tryz.prog n_impl_MinCores [.sl 0 0 S.length c] [.ro (encTask.row S)] (fun x σ' => ∃ τ, σ' = [.ro (encTask.row S)] ++ τ ∧ τ = [] ∧ ∃ r, x = .i .i64 r ∧ MinP S r) := by
  refine call_impl_MinCores (by simp) ?_
  simp only [c_impl_MinCores, go_sem, Int.reduceToNat, List.take_nil, Nat.zero_mul, Nat.reduceEqDiff, Nat.reduceAdd, Nat.reduceLT, Nat.reduceLeDiff, Nat.reduceMul, ↓reduceIte, reduceCtorEq]
  refine impl_SetValid_ (L := S) (by omega) (Rd.own rfl) ?_
  simp only [not_true_eq_false, not_false_eq_true, decide_true, decide_false, Bool.not_true, Bool.not_false, false_implies, true_implies, and_true, true_and, Bool.false_eq_true, Bool.true_eq_false, implies_true, Bool.not_not, Classical.not_not, go_sem, Int.reduceToNat, List.take_nil, Nat.zero_mul, Nat.reduceEqDiff, Nat.reduceAdd, Nat.reduceLT, Nat.reduceLeDiff, Nat.reduceMul, ↓reduceIte, reduceCtorEq]
  refine ⟨fun hS => Fin.plain ⟨_, rfl, rfl, _, rfl, .inl ⟨hS, rfl⟩⟩, fun hS => ?_⟩
  refine loop_count 4 (fun k => ⟨[(0, .sl 0 0 S.length c), (3, .i .i64 ((k : Int) + 1))], [.ro (encTask.row S)]⟩) (fun k => ∀ c : Int, 1 ≤ c → c < (k : Int) + 1 → part S c = none) (fun c h1 h2 => by omega) (Wk.pick [0]) fun k hk hJ => ?_
  simp only [l0_impl_MinCores, not_true_eq_false, not_false_eq_true, decide_true, decide_false, Bool.not_true, Bool.not_false, false_implies, true_implies, and_true, true_and, Bool.false_eq_true, Bool.true_eq_false, implies_true, Bool.not_not, Classical.not_not, go_sem, Int.reduceToNat, List.take_nil, Nat.zero_mul, Nat.reduceEqDiff, Nat.reduceAdd, Nat.reduceLT, Nat.reduceLeDiff, Nat.reduceMul, ↓reduceIte, reduceCtorEq]
  refine ⟨fun hlt => impl_Partition_ (S := S) (by omega) (Rd.own rfl) fun x τ hx => ?_, fun hge => ?_⟩
  · rcases hx with ⟨A, c1, r1, rfl, rfl, hok, hA⟩ | ⟨rfl, rfl, hno⟩
    · simp only [not_true_eq_false, not_false_eq_true, decide_true, decide_false, Bool.not_true, Bool.not_false, false_implies, true_implies, and_true, true_and, Bool.false_eq_true, Bool.true_eq_false, implies_true, Bool.not_not, Classical.not_not, go_sem, Int.reduceToNat, List.take_nil, Nat.zero_mul, Nat.reduceEqDiff, Nat.reduceAdd, Nat.reduceLT, Nat.reduceLeDiff, Nat.reduceMul, ↓reduceIte, reduceCtorEq]
      exact Fin.pick [0] (.i .i64 ((k : Int) + 1)) [.ro (encTask.row S)] ⟨_, rfl, rfl, _, rfl, .inr ⟨hS, by omega, hJ, fun _ => ⟨A, hA⟩⟩⟩
    · simp only [not_true_eq_false, not_false_eq_true, decide_true, decide_false, Bool.not_true, Bool.not_false, false_implies, true_implies, and_true, true_and, Bool.false_eq_true, Bool.true_eq_false, implies_true, Bool.not_not, Classical.not_not, go_sem, Int.reduceToNat, List.take_nil, Nat.zero_mul, Nat.reduceEqDiff, Nat.reduceAdd, Nat.reduceLT, Nat.reduceLeDiff, Nat.reduceMul, ↓reduceIte, reduceCtorEq]
      refine ⟨by omega, ⟨by omega, fun c h1 h2 => ?_⟩, ?_⟩
      · by_cases e : c = (k : Int) + 1
        · rw [e]; exact hno ⟨hS, by omega, by omega⟩
        · exact hJ c h1 (by omega)
      · rw [show ((k + 1 : Nat) : Int) + 1 = (k : Int) + 1 + 1 by omega]
        exact Wk.pick [0]
  · exact Fin.plain ⟨_, rfl, rfl, _, rfl, .inr ⟨hS, by omega, fun c h1 h2 => hJ c h1 (by omega), fun h => absurd h (by decide)⟩⟩
theorem impl_MinCores_ {S : List Task} (hs : S.length ≤ 1048576) {v : AV} {σ : List AB} (h : Rd encTask σ v S) {K : AV → List AB → Prop} (hk : ∀ r, MinP S r → K (.i .i64 r) σ) : CallWp Tryz.prog n_impl_MinCores [v] σ K := by
  refine call_news _ (rds1 h.r) (fun c => [.sl 0 0 S.length (c 0)]) (fun x τ => τ = [] ∧ ∃ r, x = .i .i64 r ∧ MinP S r) (fun c => impl_MinCores0 S hs (c 0)) ?_ (fun ν c h => ⟨h.1, trivial⟩) (fun _ => rfl) ?_
  · rintro x τ ⟨rfl, r, rfl, _⟩; exact ⟨rfl, rfl⟩
  · rintro x τ ⟨rfl, r, rfl, h⟩
    rw [List.append_nil]; exact hk r h
end Go.Proofs.YtfngcejaphhmmaaGreatDoor
