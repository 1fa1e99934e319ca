import Derived.Test.YtfngcejaphhmmaaGreatDoorC1
namespace Go.Proofs.YtfngcejaphhmmaaGreatDoor
open Go.Abs Go.Ds
set_option linter.unusedSimpArgs false
set_option linter.unusedVariables false
set_option maxRecDepth 20000
theorem spl_eq (z r : List AV) (o : Nat) (h : o + r.length ≤ z.length) : spl z o r = z.take o ++ (r ++ z.drop (o + r.length)) := by
  apply List.ext_getElem?
  intro j
  rw [spl_get _ _ _ _ h]
  by_cases h1 : j < o
  · rw [if_neg (by omega), List.getElem?_append_left (by rw [List.length_take]; omega), List.getElem?_take, if_pos h1]
  · rw [List.getElem?_append_right (by rw [List.length_take]; omega), List.length_take, Nat.min_eq_left (by omega)]
    by_cases h2 : j < o + r.length
    · rw [if_pos (by omega), List.getElem?_append_left (by omega)]
    · rw [if_neg (by omega), List.getElem?_append_right (by omega), List.getElem?_drop]
      congr 1; omega
theorem math_bits_Mul64_ (a b : Int) (ha : 0 ≤ a ∧ a ≤ 1000000) (hb : 0 ≤ b ∧ b ≤ 1000000) {σ : List AB} {K : AV → List AB → Prop} (hk : K (.tup [.i .u64 0, .i .u64 (a * b)]) σ) : CallWp Tryz.prog n_math_bits_Mul64 [.i .u64 a, .i .u64 b] σ K := by
  have hab : 0 ≤ a * b ∧ a * b ≤ 1000000000000 := by
    refine ⟨Int.mul_nonneg ha.1 hb.1, ?_⟩
    calc a * b ≤ 1000000 * 1000000 := Int.mul_le_mul ha.2 hb.2 hb.1 (by omega)
      _ ≤ 1000000000000 := by decide
  have e1 : a % 4294967296 = a := by omega
  have e2 : a / 4294967296 = 0 := by omega
  have e3 : b % 4294967296 = b := by omega
  have e4 : b / 4294967296 = 0 := by omega
  obtain ⟨q, hq⟩ : ∃ q, q = a * b / 4294967296 := ⟨_, rfl⟩
  have hq1 : 0 ≤ q ∧ q ≤ 1000 := by omega
  have e5 : q % 4294967296 = q := by omega
  have e6 : q / 4294967296 = 0 := by omega
  refine call_math_bits_Mul64 (by simp) ?_
  simp only [c_math_bits_Mul64, e1, e2, e3, e4, ← hq, Int.zero_mul, Int.zero_add, Int.mul_zero, Int.add_zero, e5, e6, not_true_eq_false, not_false_eq_true, decide_true, decide_false, Bool.not_true, Bool.not_false, false_implies, true_implies, and_true, true_and, Bool.false_eq_true, Bool.true_eq_false, implies_true, Bool.not_not, Classical.not_not, go_sem, Int.reduceToNat, List.take_nil, Nat.zero_mul, Nat.reduceEqDiff, Nat.reduceAdd, Nat.reduceLT, Nat.reduceLeDiff, Nat.reduceMul, ↓reduceIte, reduceCtorEq]
  repeat refine ⟨by omega, ?_⟩
  exact Fin.plain hk
theorem math_bits_Mul_ (a b : Int) (ha : 0 ≤ a ∧ a ≤ 1000000) (hb : 0 ≤ b ∧ b ≤ 1000000) {σ : List AB} {K : AV → List AB → Prop} (hk : K (.tup [.i .u64 0, .i .u64 (a * b)]) σ) : CallWp Tryz.prog n_math_bits_Mul [.i .u64 a, .i .u64 b] σ K := by
  refine call_math_bits_Mul (by simp) ?_
  simp only [c_math_bits_Mul, not_true_eq_false, not_false_eq_true, decide_true, decide_false, Bool.not_true, Bool.not_false, false_implies, true_implies, and_true, true_and, Bool.false_eq_true, Bool.true_eq_false, implies_true, Bool.not_not, Classical.not_not, go_sem, Int.reduceToNat, List.take_nil, Nat.zero_mul, Nat.reduceEqDiff, Nat.reduceAdd, Nat.reduceLT, Nat.reduceLeDiff, Nat.reduceMul, ↓reduceIte, reduceCtorEq]
  refine math_bits_Mul64_ a b ha hb ?_
  simp only [not_true_eq_false, not_false_eq_true, decide_true, decide_false, Bool.not_true, Bool.not_false, false_implies, true_implies, and_true, true_and, Bool.false_eq_true, Bool.true_eq_false, implies_true, Bool.not_not, Classical.not_not, go_sem, Int.reduceToNat, List.take_nil, Nat.zero_mul, Nat.reduceEqDiff, Nat.reduceAdd, Nat.reduceLT, Nat.reduceLeDiff, Nat.reduceMul, ↓reduceIte, reduceCtorEq]
  exact Fin.plain hk
def half (n k : Nat) (x : Int) : List Int := List.replicate k x ++ List.replicate (n - k) 0
theorem half_length (n k : Nat) (x : Int) (h : k ≤ n) : (half n k x).length = n := by simp [half]; omega
theorem half_copy (n k m : Nat) (x : Int) (hk : k ≤ n) (hm : m ≤ k) (hmn : k + m ≤ n) : spl (encInt.row (half n k x)) k (win (encInt.row (half n k x)) 0 m) = encInt.row (half n (k + m) x) := by
  have h1 : win (encInt.row (half n k x)) 0 m = encInt.row (List.replicate m x) := by
    have := encInt.part (half n k x) 0 m
    simp only [encInt, Nat.mul_one, Nat.zero_mul] at this
    simp only [encInt]
    rw [this, List.drop_zero, half, List.take_append_of_le_length (by simp; exact hm), List.take_replicate, Nat.min_eq_left hm]
  have hl : (encInt.row (half n k x)).length = n := by rw [lenI, half_length _ _ _ hk]
  rw [h1, spl_eq _ _ _ (by rw [lenI, hl, List.length_replicate]; omega), lenI, List.length_replicate]
  have e1 : (encInt.row (half n k x)).take k = encInt.row (List.replicate k x) := by
    have := encInt.take (half n k x) k
    simp only [encInt, Nat.mul_one] at this
    simp only [encInt]
    rw [this, half, List.take_append_of_le_length (by simp), List.take_replicate, Nat.min_self]
  have e2 : (encInt.row (half n k x)).drop (k + m) = encInt.row (List.replicate (n - (k + m)) 0) := by
    have := encInt.drop (half n k x) (k + m)
    simp only [encInt, Nat.mul_one] at this
    simp only [encInt]
    rw [this, half, List.drop_append, List.drop_of_length_le (by simp), List.nil_append, List.length_replicate, List.drop_replicate]
    congr 2; omega
  rw [e1, e2, ← encInt.row_append, ← encInt.row_append, half, ← List.append_assoc, List.replicate_append_replicate]
theorem slices_Repeat_int0 (x : Int) (n : Nat) (hn : n ≤ 1000) (c : Nat) : CallWp Tryz.prog n_slices_Repeat_int [.sl 0 0 1 c, .i .i64 n] [.ro (encInt.row [x])] (fun y σ => ∃ cap, y = .sl 1 0 n cap ∧ σ = [.ro (encInt.row [x])] ++ [.rw ty_int (encInt.row (List.replicate n x)) (cap * 1)]) := by
  refine call_slices_Repeat_int (by simp) ?_
  simp only [c_slices_Repeat_int, not_true_eq_false, not_false_eq_true, decide_true, decide_false, Bool.not_true, Bool.not_false, false_implies, true_implies, and_true, true_and, Bool.false_eq_true, Bool.true_eq_false, implies_true, Bool.not_not, Classical.not_not, go_sem, Int.reduceToNat, List.take_nil, Nat.zero_mul, Nat.reduceEqDiff, Nat.reduceAdd, Nat.reduceLT, Nat.reduceLeDiff, Nat.reduceMul, ↓reduceIte, reduceCtorEq]
  refine ⟨fun h => by omega, fun _ => ⟨by omega, by omega, math_bits_Mul_ _ _ (by omega) (by omega) ?_⟩⟩
  have e1 : ((1 : Nat) : Int) * (n : Int) = n := by omega
  simp only [e1, Int.toNat_natCast, not_true_eq_false, not_false_eq_true, decide_true, decide_false, Bool.not_true, Bool.not_false, false_implies, true_implies, and_true, true_and, Bool.false_eq_true, Bool.true_eq_false, implies_true, Bool.not_not, Classical.not_not, go_sem, Int.reduceToNat, List.take_nil, Nat.zero_mul, Nat.reduceEqDiff, Nat.reduceAdd, Nat.reduceLT, Nat.reduceLeDiff, Nat.reduceMul, ↓reduceIte, reduceCtorEq]
  refine ⟨fun _ => ⟨fun h => absurd h (by omega), fun _ => ⟨by omega, by omega, ⟨by rw [show rep n [AV.i .i64 0] = encInt.row (List.replicate n 0) from encInt.rep 0 _, lenI, List.length_replicate]; exact Nat.min_le_right _ _, Nat.min_le_left _ _⟩, ?_⟩⟩, fun h => absurd h (by omega)⟩
  have h0 : spl (rep n [AV.i .i64 0]) 0 (win (encInt.row [x]) 0 (Nat.min 1 n)) = encInt.row (half n (Nat.min 1 n) x) := by
    rw [show rep n [AV.i .i64 0] = encInt.row (List.replicate n 0) from encInt.rep 0 _]
    cases n with
    | zero => rfl
    | succ n =>
      have e : Nat.min 1 (n + 1) = 1 := Nat.min_eq_left (by omega)
      rw [e, half, Nat.add_sub_cancel, List.replicate_succ]
      rfl
  rw [h0]
  refine loop_intro (fun k : Nat => ⟨[(7, .sl 1 0 n n), (8, .i .i64 k)], [.ro (encInt.row [x]), .rw ty_int (encInt.row (half n k x)) n]⟩) (fun k => k ≤ n ∧ (k = 0 → n = 0)) (fun k => n - k) (Nat.min 1 n) ⟨Nat.min_le_right _ _, fun h => by
    rcases Nat.eq_zero_or_pos n with h1 | h1
    · exact h1
    · have : Nat.min 1 n = 1 := Nat.min_eq_left h1
      omega⟩ (Wk.pick [0, 1]) fun k hk => ?_
  simp only [l0_slices_Repeat_int, lenI, half_length _ _ _ hk.1, not_true_eq_false, not_false_eq_true, decide_true, decide_false, Bool.not_true, Bool.not_false, false_implies, true_implies, and_true, true_and, Bool.false_eq_true, Bool.true_eq_false, implies_true, Bool.not_not, Classical.not_not, go_sem, Int.reduceToNat, List.take_nil, Nat.zero_mul, Nat.reduceEqDiff, Nat.reduceAdd, Nat.reduceLT, Nat.reduceLeDiff, Nat.reduceMul, ↓reduceIte, reduceCtorEq]
  obtain ⟨m, hm⟩ : ∃ m, m = k.min (n - k) := ⟨_, rfl⟩
  have hm1 : m ≤ k := by rw [hm]; exact Nat.min_le_left _ _
  have hm2 : m ≤ n - k := by rw [hm]; exact Nat.min_le_right _ _
  rw [← hm]
  refine ⟨fun h => ⟨by omega, fun _ => ⟨by omega, by omega, by omega, k + m, ⟨by omega, ?_⟩, ?_⟩, fun h2 => by omega⟩, fun h => ?_⟩
  · have : 0 < m := by
      have : 0 < k := by omega
      rw [hm]; exact Nat.lt_min.2 ⟨this, by omega⟩
    omega
  · rw [half_copy n k m x hk.1 hm1 (by omega), ← Int.natCast_add]
    exact Wk.pick [0, 1]
  · have e : k = n := by omega
    subst e
    refine Fin.plain ⟨k, rfl, ?_⟩
    simp [half]
theorem slices_Repeat_int_ (x : Int) (n : Nat) (hn : n ≤ 1000) {v : AV} {σ : List AB} (h : Rd encInt σ v [x]) {K : AV → List AB → Prop} (hk : ∀ cap, K (.sl σ.length 0 n cap) (σ ++ [.rw ty_int (encInt.row (List.replicate n x)) (cap * 1)])) : CallWp Tryz.prog n_slices_Repeat_int [v, .i .i64 n] σ K :=
  call_new _ (rds1 h.r) (fun c => [.sl 0 0 1 (c 0), .i .i64 n]) (fun c => slices_Repeat_int0 x n hn (c 0)) (fun ν c h => ⟨h.1, .inl rfl, trivial⟩) (fun _ => rfl) (encInt.row_flat _) hk
theorem impl_none_ (n : Nat) (hn : n ≤ 1000) {σ : List AB} {K : AV → List AB → Prop} (hk : ∀ cap, K (.sl σ.length 0 n cap) (σ ++ [.rw ty_int (encInt.row (List.replicate n (-1))) (cap * 1)])) : CallWp Tryz.prog n_impl_none [.i .i64 n] σ K := by
  refine call_new (S := []) (by simp) (fun _ => [.i .i64 n]) (fun _ => ?_) (fun ν c h => ⟨.inl rfl, trivial⟩) (fun _ => rfl) (encInt.row_flat _) hk
  refine call_impl_none (by simp) ?_
  simp only [c_impl_none, slBl, not_true_eq_false, not_false_eq_true, decide_true, decide_false, Bool.not_true, Bool.not_false, false_implies, true_implies, and_true, true_and, Bool.false_eq_true, Bool.true_eq_false, implies_true, Bool.not_not, Classical.not_not, go_sem, Int.reduceToNat, List.take_nil, Nat.zero_mul, Nat.reduceEqDiff, Nat.reduceAdd, Nat.reduceLT, Nat.reduceLeDiff, Nat.reduceMul, ↓reduceIte, reduceCtorEq]
  refine slices_Repeat_int_ (-1) n hn (Rd.own (L := [-1]) rfl) fun cap => ?_
  simp only [go_sem, Int.reduceToNat, List.take_nil, Nat.zero_mul, Nat.reduceEqDiff, Nat.reduceAdd, Nat.reduceLT, Nat.reduceLeDiff, Nat.reduceMul, ↓reduceIte, reduceCtorEq]
  exact Fin.pick [1] (.sl 0 0 n cap) _ ⟨cap, rfl, rfl⟩
end Go.Proofs.YtfngcejaphhmmaaGreatDoor
