/- The law FnJitterValid answers true: over the abstract heap. -/
import Derived.Test.YtklidlannicomaaD2
import Derived.Test.YtklidlannicomaaC1
namespace Go.Proofs.Ytklidlannicomaa
open Go.Abs Go.Ds
set_option linter.unusedSimpArgs false
set_option linter.unusedVariables false
set_option maxRecDepth 20000

theorem spec_l20Open0 (C : List Nat) (c : Nat) (hc : C.length ≤ c) : CallWp Try.prog n_spec_l20Open [.sl 0 0 C.length c] [.ro (encByte.row C)] (fun x σ' => x = .p 1 0 ∧ σ' = [.ro (encByte.row C), .rw ty_spec_l20Rd [.sl 0 0 (C.take 2000).length c, .i .i64 0] 2]) := by
  refine call_spec_l20Open (by simp) ?_
  simp only [c_spec_l20Open, go_sem, Int.reduceToNat, List.take_nil, Nat.zero_mul, Nat.reduceEqDiff, Nat.reduceAdd, Nat.reduceLT, Nat.reduceLeDiff, Nat.reduceMul, ↓reduceIte, reduceCtorEq]
  refine seq_join (fun _ : Unit => ⟨[(0, .sl 0 0 (C.take 2000).length c)], [.ro (encByte.row C)]⟩) (fun _ => True) ?_ fun _ _ => ?_
  · simp only [go_sem, Int.reduceToNat, List.take_nil, Nat.zero_mul, Nat.reduceEqDiff, Nat.reduceAdd, Nat.reduceLT, Nat.reduceLeDiff, Nat.reduceMul, ↓reduceIte, reduceCtorEq]
    refine ⟨fun h => ⟨by omega, by omega, kJ_intro () trivial ?_⟩, fun h => kJ_intro () trivial ?_⟩
    · have : (C.take 2000).length = 2000 := by rw [List.length_take]; omega
      rw [this]
      exact Wk.pick [0]
    · rw [List.take_of_length_le (by omega)]; exact Wk.pick [0]
  · simp only [go_sem, Int.reduceToNat, List.take_nil, Nat.zero_mul, Nat.reduceEqDiff, Nat.reduceAdd, Nat.reduceLT, Nat.reduceLeDiff, Nat.reduceMul, ↓reduceIte, reduceCtorEq]
    exact Fin.plain ⟨rfl, rfl⟩

theorem Rdr.take {C : List Nat} {c : Nat} {p : Int} {τ : List AB} : Rdr ty_spec_l20Rd (.ro (encByte.row C) :: .rw ty_spec_l20Rd [.sl 0 0 (C.take 2000).length c, .i .i64 p] 2 :: τ) 1 (C.take 2000) p 0 0 c := by
  have h1 : (encByte.row C).take (C.take 2000).length = encByte.row (C.take 2000) := by
    have h := encByte.take C (C.take 2000).length
    simp only [encByte, Nat.mul_one] at h
    simp only [encByte]
    rw [h]
    congr 1
    rw [List.length_take]
    rcases Nat.le_total 2000 C.length with h | h
    · rw [Nat.min_eq_left h]
    · rw [Nat.min_eq_right h, List.take_length, List.take_of_length_le h]
  refine ⟨rfl, by decide, encByte.row C, rfl, by rw [lenB, List.length_take]; omega, ?_⟩
  simp only [Abs.win, List.drop_zero, h1]

theorem laws_alive_ {σ : List AB} {K : AV → List AB → Prop} (hk : K (.b true) σ) : CallWp Try.prog n_laws_alive [] σ K := by
  refine call0 (r := .b true) ?_ rfl rfl hk
  refine call_laws_alive (by simp) ?_
  simp only [c_laws_alive, go_sem, Int.reduceToNat, List.take_nil, Nat.zero_mul, Nat.reduceEqDiff, Nat.reduceAdd, Nat.reduceLT, Nat.reduceLeDiff, Nat.reduceMul, ↓reduceIte, reduceCtorEq]
  refine impl_TaskValid_ ⟨1, 1, 1⟩ ?_
  simp only [go_sem, Int.reduceToNat, List.take_nil, Nat.zero_mul, Nat.reduceEqDiff, Nat.reduceAdd, Nat.reduceLT, Nat.reduceLeDiff, Nat.reduceMul, ↓reduceIte, reduceCtorEq]
  exact Fin.same rfl

theorem Code.take {C : List Nat} (h : ∀ x ∈ C, x < 256) : Code (C.take 2000) := ⟨by rw [List.length_take]; omega, fun x hx => h x (List.mem_of_mem_take hx)⟩

theorem spec_DrawJitterValid0 (C : List Nat) (hC : ∀ x ∈ C, x < 256) (c : Nat) (hc : C.length ≤ c) : CallWp Try.prog n_spec_DrawJitterValid [.sl 0 0 C.length c] [.ro (encByte.row C)] (fun x σ' => ∃ (L : List Task) (J : List Int) (cap cap' : Nat),
    x = .tup [.sl 1 0 L.length cap, .sl 2 0 J.length cap'] ∧ σ' = [.ro (encByte.row C), .rw ty_impl_Task (encTask.row L) (cap * 3), .rw ty_int (encInt.row J) cap'] ∧ (L.length ≤ 8 ∧ ∀ t ∈ L, wildT t) ∧ J.length ≤ 9 ∧ ∀ j ∈ J, -1 ≤ j ∧ j ≤ 20) := by
  refine call_spec_DrawJitterValid (by simp) ?_
  simp only [c_spec_DrawJitterValid, go_sem, Int.reduceToNat, List.take_nil, Nat.zero_mul, Nat.reduceEqDiff, Nat.reduceAdd, Nat.reduceLT, Nat.reduceLeDiff, Nat.reduceMul, ↓reduceIte, reduceCtorEq]
  refine (spec_l20Open0 C c hc).mono ?_
  rintro x σ' _ ⟨rfl, rfl⟩
  simp only [go_sem, Int.reduceToNat, List.take_nil, Nat.zero_mul, Nat.reduceEqDiff, Nat.reduceAdd, Nat.reduceLT, Nat.reduceLeDiff, Nat.reduceMul, ↓reduceIte, reduceCtorEq]
  refine spec_l20Set_ (Rdr.take (τ := [])) (Code.take hC) (by omega) _ (by omega) fun L cap p1 h11 h12 hL8 hL _ => ?_
  simp only [go_sem, Int.reduceToNat, List.take_nil, Nat.zero_mul, Nat.reduceEqDiff, Nat.reduceAdd, Nat.reduceLT, Nat.reduceLeDiff, Nat.reduceMul, ↓reduceIte, reduceCtorEq]
  refine spec_l20Jitter_ (Rdr.take (τ := [_])) (Code.take hC) (by omega) hL8 hL (Sl.own rfl (by decide)) _ (by omega) fun J cap' p2 h21 h22 hJ9 hJ => ?_
  simp only [go_sem, Int.reduceToNat, List.take_nil, Nat.zero_mul, Nat.reduceEqDiff, Nat.reduceAdd, Nat.reduceLT, Nat.reduceLeDiff, Nat.reduceMul, ↓reduceIte, reduceCtorEq]
  refine Fin.pick [0, 2, 3] (.tup [.sl 1 0 L.length cap, .sl 2 0 J.length cap']) _ ⟨L, J, cap, cap', rfl, rfl, ⟨hL8, hL⟩, hJ9, hJ⟩

theorem Rd.own' {α : Type} {E : Enc α} {σ : List AB} {n len cap : Nat} {L : List α} (h : cellsOf σ n = some (E.row L)) (hl : L.length = len) : Rd E σ (.sl n 0 len cap) L := by subst hl; exact Rd.own h

theorem laws_FnJitterValid0 (C : List Nat) (hC : ∀ x ∈ C, x < 256) (c : Nat) (hc : C.length ≤ c) : CallWp Try.prog n_laws_FnJitterValid [.sl 0 0 C.length c] [.ro (encByte.row C)] (fun x _ => x = .b true) := by
  refine call_laws_FnJitterValid (by simp) ?_
  simp only [c_laws_FnJitterValid, go_sem, Int.reduceToNat, List.take_nil, Nat.zero_mul, Nat.reduceEqDiff, Nat.reduceAdd, Nat.reduceLT, Nat.reduceLeDiff, Nat.reduceMul, ↓reduceIte, reduceCtorEq]
  refine ⟨fun h => Fin.plain rfl, fun h => ?_⟩
  refine (spec_DrawJitterValid0 C hC c hc).mono ?_
  rintro x σ' _ ⟨L, J, cap, cap', rfl, rfl, ⟨hL8, hL⟩, hJ9, hJ⟩
  simp only [go_sem, Int.reduceToNat, List.take_nil, Nat.zero_mul, Nat.reduceEqDiff, Nat.reduceAdd, Nat.reduceLT, Nat.reduceLeDiff, Nat.reduceMul, ↓reduceIte, reduceCtorEq]
  refine impl_JitterValid_ (by omega) (by omega) (Rd.own rfl) (Rd.own rfl) ?_
  simp only [go_sem, Int.reduceToNat, List.take_nil, Nat.zero_mul, Nat.reduceEqDiff, Nat.reduceAdd, Nat.reduceLT, Nat.reduceLeDiff, Nat.reduceMul, ↓reduceIte, reduceCtorEq]
  refine spec_JitterValid_ (by omega) (by omega) (Rd.own rfl) (Rd.own rfl) ?_
  simp only [go_sem, Int.reduceToNat, List.take_nil, Nat.zero_mul, Nat.reduceEqDiff, Nat.reduceAdd, Nat.reduceLT, Nat.reduceLeDiff, Nat.reduceMul, ↓reduceIte, reduceCtorEq]
  refine ⟨by omega, ?_⟩
  rw [show rep L.length [AV.i .i64 0] = encInt.row (List.replicate L.length 0) from encInt.rep 0 _]
  refine impl_JitterValid_ (L := L) (J := List.replicate L.length 0) (by omega) (by simp; omega) (Rd.own rfl) (Rd.own' rfl (by simp)) ?_
  simp only [go_sem, Int.reduceToNat, List.take_nil, Nat.zero_mul, Nat.reduceEqDiff, Nat.reduceAdd, Nat.reduceLT, Nat.reduceLeDiff, Nat.reduceMul, ↓reduceIte, reduceCtorEq]
  refine spec_SetValid_ (by omega) (Rd.own rfl) ?_
  simp only [decide_eq_decide.2 (jitOk_zero L), go_sem, Int.reduceToNat, List.take_nil, Nat.zero_mul, Nat.reduceEqDiff, Nat.reduceAdd, Nat.reduceLT, Nat.reduceLeDiff, Nat.reduceMul, ↓reduceIte, reduceCtorEq]
  refine ⟨fun hok => laws_alive_ ?_, fun hok => ?_⟩
  · simp only [go_sem, Int.reduceToNat, List.take_nil, Nat.zero_mul, Nat.reduceEqDiff, Nat.reduceAdd, Nat.reduceLT, Nat.reduceLeDiff, Nat.reduceMul, ↓reduceIte, reduceCtorEq]
    exact Fin.plain rfl
  refine loop_count L.length (fun k => ⟨[(3, .sl 1 0 L.length cap), (4, .sl 2 0 J.length cap'), (6, .i .i64 k)], [.ro (encByte.row C), .rw ty_impl_Task (encTask.row L) (cap * 3), .rw ty_int (encInt.row J) cap']⟩) (fun _ => True) trivial (Wk.pick [0, 1, 2]) fun k hk _ => ?_
  simp only [l0_laws_FnJitterValid, go_sem, Int.reduceToNat, List.take_nil, Nat.zero_mul, Nat.reduceEqDiff, Nat.reduceAdd, Nat.reduceLT, Nat.reduceLeDiff, Nat.reduceMul, ↓reduceIte, reduceCtorEq]
  refine ⟨fun hl => ?_, fun hl => Fin.plain rfl⟩
  have hjk : k < J.length := by have := hok.2.1; omega
  have hw := hL _ (List.getElem_mem hl)
  unfold wildT at hw
  simp only [go_sem, Int.reduceToNat, List.take_nil, Nat.zero_mul, Nat.reduceEqDiff, Nat.reduceAdd, Nat.reduceLT, Nat.reduceLeDiff, Nat.reduceMul, ↓reduceIte, reduceCtorEq, lenT, rdT0, rdT1, rdT2, winT, takeT, appT, splT, splI, winI, lenI, rdI, takeI, appI, hl]
  refine ⟨by omega, fun cap2 hcap2 => ?_⟩
  simp only [go_sem, Int.reduceToNat, List.take_nil, Nat.zero_mul, Nat.reduceEqDiff, Nat.reduceAdd, Nat.reduceLT, Nat.reduceLeDiff, Nat.reduceMul, ↓reduceIte, reduceCtorEq, lenT, rdT0, rdT1, rdT2, winT, takeT, appT, splT, splI, winI, lenI, rdI, takeI, appI, hl, hjk]
  refine ⟨by omega, by omega, by omega, by omega, by omega, ?_⟩
  refine impl_JitterValid_ (L := L) (J := J.set k (L[k].D - L[k].C + 1)) (by omega) (by simp; omega) (Rd.own rfl) (Rd.own' rfl (by simp)) ?_
  simp only [decide_eq_false (jitOk_beyond (J := J) hl), go_sem, Int.reduceToNat, List.take_nil, Nat.zero_mul, Nat.reduceEqDiff, Nat.reduceAdd, Nat.reduceLT, Nat.reduceLeDiff, Nat.reduceMul, ↓reduceIte, reduceCtorEq]
  exact ⟨by omega, Wk.pick [0, 1, 2]⟩

theorem c_FnJitterValid (C : List Nat) (c : Nat) (hC : ∀ x ∈ C, x < 256) (_ : C.length * 1 ≤ 140737488351232) (hc : C.length ≤ c) : CallWp Try.prog n_laws_FnJitterValid [.sl 0 0 C.length c] [.ro (encByte.row C)] (fun x _ => x = .b true) := laws_FnJitterValid0 C hC c hc
end Go.Proofs.Ytklidlannicomaa
