/- The law FnCheckSound answers true: over the abstract heap. -/
import Derived.Test.YtgnlibnnpipbhaaV13
import Derived.Test.YtgnlibnnpipbhaaC4
namespace Go.Proofs.Ytgnlibnnpipbhaa
open Go.Abs Go.Ds
set_option linter.unusedSimpArgs false
set_option linter.unusedVariables false
set_option maxRecDepth 20000
set_option maxHeartbeats 2000000

theorem laws_executed0 (R : List Int) (x : Int) (m : Nat) (hm : m ≤ R.length) (hs : R.length ≤ 1048576) (c : Nat) : CallWp Try.prog n_laws_executed [.sl 0 0 R.length c, .i .i64 x, .i .i64 m] [.ro (encInt.row R)] (fun v σ => v = .i .i64 ((R.take m).count x : Nat) ∧ σ = [.ro (encInt.row R)]) := by
  refine call_laws_executed (by simp) ?_
  simp only [c_laws_executed, go_sem, Int.reduceToNat, List.take_nil, Nat.zero_mul, Nat.reduceEqDiff, Nat.reduceAdd, Nat.reduceLT, Nat.reduceLeDiff, Nat.reduceMul, ↓reduceIte, reduceCtorEq]
  refine loop_count m (fun k => ⟨[(0, .sl 0 0 R.length c), (1, .i .i64 x), (2, .i .i64 m), (7, .i .i64 ((R.take k).count x : Nat)), (8, .i .i64 k)], [.ro (encInt.row R)]⟩) (fun _ => True) trivial (Wk.keep (by simp [look_cons])) fun k hk _ => ?_
  simp only [l0_laws_executed, go_sem, Int.reduceToNat, List.take_nil, Nat.zero_mul, Nat.reduceEqDiff, Nat.reduceAdd, Nat.reduceLT, Nat.reduceLeDiff, Nat.reduceMul, ↓reduceIte, reduceCtorEq]
  refine ⟨fun h => ?_, fun h => ?_⟩
  · have hkR : k < R.length := by omega
    have hc : (R.take k).count x ≤ k := by
      have := List.count_le_length (a := x) (l := R.take k)
      rw [List.length_take] at this; omega
    have e : (R.take (k + 1)).count x = (R.take k).count x + if R[k] = x then 1 else 0 := by
      rw [List.take_succ_eq_append_getElem hkR, List.count_append]
      simp [List.count_cons]
    simp only [rdI hkR, lenI, go_sem, Int.reduceToNat, List.take_nil, Nat.zero_mul, Nat.reduceEqDiff, Nat.reduceAdd, Nat.reduceLT, Nat.reduceLeDiff, Nat.reduceMul, ↓reduceIte, reduceCtorEq]
    refine ⟨hkR, hkR, fun h1 => ⟨by omega, by omega, by omega, ?_⟩, fun h1 => ⟨by omega, by omega, ?_⟩⟩
    · rw [e, if_pos h1]; exact Wk.keep (by simp [look_cons])
    · rw [e, if_neg h1]; exact Wk.keep (by simp [look_cons])
  · have ek : k = m := by omega
    subst ek
    exact Fin.plain ⟨rfl, rfl⟩
theorem laws_executed_ {R : List Int} (x : Int) {m : Nat} (hm : m ≤ R.length) (hs : R.length ≤ 1048576) {v : AV} {σ : List AB} (h : Rd encInt σ v R) {K : AV → List AB → Prop} (hk : K (.i .i64 ((R.take m).count x : Nat)) σ) : CallWp Try.prog n_laws_executed [v, .i .i64 x, .i .i64 m] σ K :=
  call_rds _ (rds1 h.r) (fun c => [.sl 0 0 R.length (c 0), .i .i64 x, .i .i64 m]) (fun c => laws_executed0 R x m hm hs (c 0)) (fun ν c h => ⟨h.1, .inl rfl, .inl rfl, trivial⟩) (fun _ => rfl) rfl hk

theorem laws_FnCheckSound0 (C : List Nat) (hC : ∀ x ∈ C, x < 256) (c : Nat) (hc : C.length ≤ c) : CallWp Try.prog n_laws_FnCheckSound [.sl 0 0 C.length c] [.ro (encByte.row C)] (fun x _ => x = .b true) := by
  refine call_laws_FnCheckSound (by simp) ?_
  simp only [c_laws_FnCheckSound, go_sem, Int.reduceToNat, List.take_nil, Nat.zero_mul, Nat.reduceEqDiff, Nat.reduceAdd, Nat.reduceLT, Nat.reduceLeDiff, Nat.reduceMul, ↓reduceIte, reduceCtorEq]
  refine ⟨fun h => Fin.plain rfl, fun h => ?_⟩
  refine (spec_DrawCheckSchedule0 C hC c hc).mono ?_
  rintro x σ' _ ⟨S, L, cap, cap', z, τ, R, rfl, rfl, hz, hS8, hL62⟩
  have hR120 : R.length ≤ 120 := by
    rcases hz with ⟨_, _, rfl⟩ | ⟨W, k, cr, rr, _, _, h1, h2, rfl⟩
    · simp
    · rw [List.length_take]; omega
  rcases hz with ⟨rfl, rfl, rfl⟩ | ⟨W, k, cr, rr, rfl, rfl, hkW, hW, rfl⟩
  · simp only [go_sem, Int.reduceToNat, List.take_nil, Nat.zero_mul, Nat.reduceEqDiff, Nat.reduceAdd, Nat.reduceLT, Nat.reduceLeDiff, Nat.reduceMul, ↓reduceIte, reduceCtorEq]
    refine impl_CheckSchedule_ (S := S) (L := L) (R := []) (by omega) (by omega) (by simp) (Rd.own rfl) (Rd.own rfl) (Rd.none (by simp)) fun cc aa hcc => ?_
    simp only [not_true_eq_false, not_false_eq_true, decide_true, decide_false, Bool.not_true, Bool.not_false, false_implies, true_implies, and_true, true_and, Bool.false_eq_true, Bool.true_eq_false, implies_true, Bool.not_not, Classical.not_not, go_sem, Int.reduceToNat, List.take_nil, Nat.zero_mul, Nat.reduceEqDiff, Nat.reduceAdd, Nat.reduceLT, Nat.reduceLeDiff, Nat.reduceMul, ↓reduceIte, reduceCtorEq]
    refine spec_CheckSchedule_ (S := S) (L := L) (R := []) (by omega) (by omega) (by simp) (Rd.own rfl) (Rd.own rfl) (Rd.none (by simp)) fun c2 a2 hc2 => ?_
    obtain ⟨rfl, rfl⟩ := hcc.same hc2
    have hrg := hcc.range
    have hne : ¬ cc = 0 := fun h0 => by
      subst h0
      have := (chk_sound hcc).1
      simp at this
    simp only [hne, not_true_eq_false, not_false_eq_true, decide_true, decide_false, Bool.not_true, Bool.not_false, false_implies, true_implies, and_true, true_and, Bool.false_eq_true, Bool.true_eq_false, implies_true, Bool.not_not, Classical.not_not, go_sem, Int.reduceToNat, List.take_nil, Nat.zero_mul, Nat.reduceEqDiff, Nat.reduceAdd, Nat.reduceLT, Nat.reduceLeDiff, Nat.reduceMul, ↓reduceIte, reduceCtorEq]
    have f1 : 1 ≤ cc := by omega
    have f2 : cc ≤ 6 := by omega
    have f3 : 0 ≤ aa := by omega
    have f4 : aa < 120 := by omega
    refine ⟨fun _ => ⟨fun _ => ⟨fun _ => ⟨fun _ => laws_alive_ ?_, fun h => absurd f4 h⟩, fun h => absurd f3 h⟩, fun h => absurd f2 h⟩, fun h => absurd f1 h⟩
    simp only [not_true_eq_false, not_false_eq_true, decide_true, decide_false, Bool.not_true, Bool.not_false, false_implies, true_implies, and_true, true_and, Bool.false_eq_true, Bool.true_eq_false, implies_true, Bool.not_not, Classical.not_not, go_sem, Int.reduceToNat, List.take_nil, Nat.zero_mul, Nat.reduceEqDiff, Nat.reduceAdd, Nat.reduceLT, Nat.reduceLeDiff, Nat.reduceMul, ↓reduceIte, reduceCtorEq]
    exact Fin.plain rfl
  · have hk : (W.take k).length = k := by rw [List.length_take]; omega
    simp only [go_sem, Int.reduceToNat, List.take_nil, Nat.zero_mul, Nat.reduceEqDiff, Nat.reduceAdd, Nat.reduceLT, Nat.reduceLeDiff, Nat.reduceMul, ↓reduceIte, reduceCtorEq]
    refine impl_CheckSchedule_ (S := S) (L := L) (R := W.take k) (by omega) (by omega) (by omega) (Rd.own rfl) (Rd.own rfl) (Rd.first rfl hkW) fun cc aa hcc => ?_
    simp only [not_true_eq_false, not_false_eq_true, decide_true, decide_false, Bool.not_true, Bool.not_false, false_implies, true_implies, and_true, true_and, Bool.false_eq_true, Bool.true_eq_false, implies_true, Bool.not_not, Classical.not_not, go_sem, Int.reduceToNat, List.take_nil, Nat.zero_mul, Nat.reduceEqDiff, Nat.reduceAdd, Nat.reduceLT, Nat.reduceLeDiff, Nat.reduceMul, ↓reduceIte, reduceCtorEq]
    refine spec_CheckSchedule_ (S := S) (L := L) (R := W.take k) (by omega) (by omega) (by omega) (Rd.own rfl) (Rd.own rfl) (Rd.first rfl hkW) fun c2 a2 hc2 => ?_
    obtain ⟨rfl, rfl⟩ := hcc.same hc2
    have hrg := hcc.range
    simp only [not_true_eq_false, not_false_eq_true, decide_true, decide_false, Bool.not_true, Bool.not_false, false_implies, true_implies, and_true, true_and, Bool.false_eq_true, Bool.true_eq_false, implies_true, Bool.not_not, Classical.not_not, go_sem, Int.reduceToNat, List.take_nil, Nat.zero_mul, Nat.reduceEqDiff, Nat.reduceAdd, Nat.reduceLT, Nat.reduceLeDiff, Nat.reduceMul, ↓reduceIte, reduceCtorEq]
    by_cases h0 : cc = 0
    · subst h0
      obtain ⟨hR, hv, ha, hs⟩ := chk_sound hcc
      have hk120 : k = 120 := by omega
      subst ha
      subst hk120
      have hW120 : W.length = 120 := by omega
      rw [List.take_of_length_le (by omega)] at hs
      simp only [not_true_eq_false, not_false_eq_true, decide_true, decide_false, Bool.not_true, Bool.not_false, false_implies, true_implies, and_true, true_and, Bool.false_eq_true, Bool.true_eq_false, implies_true, Bool.not_not, Classical.not_not, go_sem, Int.reduceToNat, List.take_nil, Nat.zero_mul, Nat.reduceEqDiff, Nat.reduceAdd, Nat.reduceLT, Nat.reduceLeDiff, Nat.reduceMul, ↓reduceIte, reduceCtorEq]
      refine loop_count L.length (fun i => ⟨[(4, .sl 2 0 L.length cap'), (5, .sl 3 0 120 cr), (7, .i .i64 0), (10, .i .i64 i)], [.ro (encByte.row C), .rw ty_impl_Task (encTask.row S) (cap * 3), .rw ty_impl_Job (encJob.row L) (cap' * 4), .rw ty_int (encInt.row W) rr]⟩) (fun _ => True) trivial (Wk.pick [0, 1, 2, 3]) fun i hi _ => ?_
      simp only [l0_laws_FnCheckSound, lenJ, not_true_eq_false, not_false_eq_true, decide_true, decide_false, Bool.not_true, Bool.not_false, false_implies, true_implies, and_true, true_and, Bool.false_eq_true, Bool.true_eq_false, implies_true, Bool.not_not, Classical.not_not, go_sem, Int.reduceToNat, List.take_nil, Nat.zero_mul, Nat.reduceEqDiff, Nat.reduceAdd, Nat.reduceLT, Nat.reduceLeDiff, Nat.reduceMul, ↓reduceIte, reduceCtorEq]
      refine ⟨fun hil => ?_, fun hige => ?_⟩
      · have hrw := legal_row hv hil
        obtain ⟨s1, s2⟩ := hs i hil
        have gL : L.getD i default = L[i] := by simp [List.getD_eq_getElem?_getD, hil]
        rw [gL] at s1 s2
        obtain ⟨d, hd⟩ := Int.eq_ofNat_of_zero_le (show 0 ≤ L[i].D by omega)
        obtain ⟨r, hr⟩ := Int.eq_ofNat_of_zero_le (show 0 ≤ L[i].R by omega)
        have ex : ∀ (m : Nat), m ≤ 120 → ∀ {σ : List AB}, cellsOf σ 3 = some (encInt.row W) → ∀ {K : AV → List AB → Prop}, K (.i .i64 ((W.take m).count (i : Int) : Nat)) σ → CallWp Try.prog n_laws_executed [.sl 3 0 120 cr, .i .i64 i, .i .i64 m] σ K := fun m hm σ hcl K hk =>
          laws_executed_ (R := W) (i : Int) (by omega) (by omega) (Rd.len' hcl hW120) hk
        rw [hd, Int.toNat_natCast] at s1
        rw [hr, Int.toNat_natCast] at s2
        simp only [rdJ1 hil, rdJ2 hil, rdJ3 hil, hd, hr, lenJ, not_true_eq_false, not_false_eq_true, decide_true, decide_false, Bool.not_true, Bool.not_false, false_implies, true_implies, and_true, true_and, Bool.false_eq_true, Bool.true_eq_false, implies_true, Bool.not_not, Classical.not_not, go_sem, Int.reduceToNat, List.take_nil, Nat.zero_mul, Nat.reduceEqDiff, Nat.reduceAdd, Nat.reduceLT, Nat.reduceLeDiff, Nat.reduceMul, ↓reduceIte, reduceCtorEq]
        refine ⟨hil, by omega, fun h120 => ⟨hil, by omega, onCall.by (ex d (by omega) rfl ⟨rfl, rfl⟩) ?_⟩, fun h120 => ?_⟩
        · have e1 := s1 h120
          simp only [rdJ1 hil, rdJ2 hil, rdJ3 hil, hd, hr, lenJ, e1, not_true_eq_false, not_false_eq_true, decide_true, decide_false, Bool.not_true, Bool.not_false, false_implies, true_implies, and_true, true_and, Bool.false_eq_true, Bool.true_eq_false, implies_true, Bool.not_not, Classical.not_not, go_sem, Int.reduceToNat, List.take_nil, Nat.zero_mul, Nat.reduceEqDiff, Nat.reduceAdd, Nat.reduceLT, Nat.reduceLeDiff, Nat.reduceMul, ↓reduceIte, reduceCtorEq]
          refine ⟨hil, by omega, hil, by omega, onCall.by (ex r (by omega) rfl ⟨rfl, rfl⟩) ?_⟩
          simp only [s2, not_true_eq_false, not_false_eq_true, decide_true, decide_false, Bool.not_true, Bool.not_false, false_implies, true_implies, and_true, true_and, Bool.false_eq_true, Bool.true_eq_false, implies_true, Bool.not_not, Classical.not_not, go_sem, Int.reduceToNat, List.take_nil, Nat.zero_mul, Nat.reduceEqDiff, Nat.reduceAdd, Nat.reduceLT, Nat.reduceLeDiff, Nat.reduceMul, ↓reduceIte, reduceCtorEq]
          repeat' first | omega | exact Wk.pick [0, 1, 2, 3] | refine ⟨?_, ?_⟩
        · refine ⟨hil, by omega, onCall.by (ex r (by omega) rfl ⟨rfl, rfl⟩) ?_⟩
          simp only [s2, not_true_eq_false, not_false_eq_true, decide_true, decide_false, Bool.not_true, Bool.not_false, false_implies, true_implies, and_true, true_and, Bool.false_eq_true, Bool.true_eq_false, implies_true, Bool.not_not, Classical.not_not, go_sem, Int.reduceToNat, List.take_nil, Nat.zero_mul, Nat.reduceEqDiff, Nat.reduceAdd, Nat.reduceLT, Nat.reduceLeDiff, Nat.reduceMul, ↓reduceIte, reduceCtorEq]
          repeat' first | omega | exact Wk.pick [0, 1, 2, 3] | refine ⟨?_, ?_⟩
      · exact Fin.plain rfl
    · simp only [h0, not_true_eq_false, not_false_eq_true, decide_true, decide_false, Bool.not_true, Bool.not_false, false_implies, true_implies, and_true, true_and, Bool.false_eq_true, Bool.true_eq_false, implies_true, Bool.not_not, Classical.not_not, go_sem, Int.reduceToNat, List.take_nil, Nat.zero_mul, Nat.reduceEqDiff, Nat.reduceAdd, Nat.reduceLT, Nat.reduceLeDiff, Nat.reduceMul, ↓reduceIte, reduceCtorEq]
      have f1 : 1 ≤ cc := by omega
      have f2 : cc ≤ 6 := by omega
      have f3 : 0 ≤ aa := by omega
      have f4 : aa < 120 := by omega
      refine ⟨fun _ => ⟨fun _ => ⟨fun _ => ⟨fun _ => laws_alive_ ?_, fun h => absurd f4 h⟩, fun h => absurd f3 h⟩, fun h => absurd f2 h⟩, fun h => absurd f1 h⟩
      simp only [not_true_eq_false, not_false_eq_true, decide_true, decide_false, Bool.not_true, Bool.not_false, false_implies, true_implies, and_true, true_and, Bool.false_eq_true, Bool.true_eq_false, implies_true, Bool.not_not, Classical.not_not, go_sem, Int.reduceToNat, List.take_nil, Nat.zero_mul, Nat.reduceEqDiff, Nat.reduceAdd, Nat.reduceLT, Nat.reduceLeDiff, Nat.reduceMul, ↓reduceIte, reduceCtorEq]
      exact Fin.plain rfl

theorem c_FnCheckSound (C : List Nat) (c : Nat) (hC : ∀ x ∈ C, x < 256) (_ : C.length * 1 ≤ 140737488351232) (hc : C.length ≤ c) : CallWp Try.prog n_laws_FnCheckSound [.sl 0 0 C.length c] [.ro (encByte.row C)] (fun x _ => x = .b true) := laws_FnCheckSound0 C hC c hc
end Go.Proofs.Ytgnlibnnpipbhaa
