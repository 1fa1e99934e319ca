import Derived.Test.YtfngcejaphhmmaaGreatDoorD1
namespace Go.Proofs.YtfngcejaphhmmaaGreatDoor
open Go.Abs Go.Ds
set_option linter.unusedSimpArgs false
set_option linter.unusedVariables false
set_option maxRecDepth 20000
theorem spec_l20Task_ {σ : List AB} {n m o c : Nat} {B : List Nat} {p : Int} (h : Rdr ty_spec_l20Rd σ n B p m o c) (hC : Code B) (hp : 0 ≤ p ∧ p ≤ 3800000000000) (k : Int) (hk : k ≤ 1000) {K : AV → List AB → Prop}
    (hK : ∀ (t : Task) (p' : Int), p ≤ p' → p' ≤ p + 10 → wildT t → (k ≤ 0 → t.ok) → K (.agg [.i .i64 t.C, .i .i64 t.D, .i .i64 t.P]) (σ.set n (.rw ty_spec_l20Rd [.sl m o B.length c, .i .i64 p'] 2))) : CallWp Tryz.prog n_spec_l20Task [.p n 0, .i .i64 k] σ K := by
  refine call_rdr ty_spec_l20Rd h [] (by simp) (fun _ => [.i .i64 k]) (TaskP k p) (fun _ => spec_l20Task0 B p hC hp k hk c) ?_ (fun _ _ _ => ⟨.inl rfl, trivial⟩) (fun _ => rfl) ?_
  · rintro x p' τ ⟨_, rfl, t, rfl, _⟩; exact ⟨rfl, rfl⟩
  · rintro x p' τ ⟨⟨h1, h2⟩, rfl, t, rfl, h3, h4⟩
    rw [List.append_nil]; exact hK t p' h1 h2 h3 h4
def SetP (n p : Int) (x : AV) (p' : Int) (τ : List AB) : Prop := (p ≤ p' ∧ p' ≤ p + 200) ∧ ∃ (L : List Task) (cap : Nat), x = .sl 2 0 L.length cap ∧ τ = [.rw ty_impl_Task (encTask.row L) (cap * 3)] ∧ L.length ≤ 8 ∧ (∀ t ∈ L, wildT t) ∧ (n ≤ 0 → setOk L)
theorem ok_wild {t : Task} (h : t.ok) : wildT t := by unfold Task.ok at h; unfold wildT; omega
theorem spec_l20Set0 (B : List Nat) (p : Int) (hC : Code B) (hp : 0 ≤ p ∧ p ≤ 3700000000000) (n : Int) (hn : n ≤ 1000) (c : Nat) : CallWp Tryz.prog n_spec_l20Set [.p 1 0, .i .i64 n] (rdr B c p) (fun x σ' => ∃ p' τ, σ' = rdr B c p' ++ τ ∧ SetP n p x p' τ) := by
  refine call_spec_l20Set (by simp) ?_
  simp only [c_spec_l20Set, go_sem, Int.reduceToNat, List.take_nil, Nat.zero_mul, Nat.reduceEqDiff, Nat.reduceAdd, Nat.reduceLT, Nat.reduceLeDiff, Nat.reduceMul, ↓reduceIte, reduceCtorEq]
  refine spec_l20Rd_pick_ (Rdr.of (τ := [_])) hC (by omega) _ (by omega) fun r1 h11 h12 _ => ?_
  simp only [go_sem, Int.reduceToNat, List.take_nil, Nat.zero_mul, Nat.reduceEqDiff, Nat.reduceAdd, Nat.reduceLT, Nat.reduceLeDiff, Nat.reduceMul, ↓reduceIte, reduceCtorEq]
  refine loop_intro (fun i : List Task × Nat × Int × Int => ⟨[(0, .p 1 0), (1, .i .i64 n), (5, .sl 2 0 i.1.length i.2.1), (6, .i .i64 i.2.2.1)], rdr B c i.2.2.2 ++ [.rw ty_impl_Task (encTask.row i.1) (i.2.1 * 3)]⟩)
    (fun i => ((i.1.length : Int) + i.2.2.1 ≤ 5 ∧ 0 ≤ i.2.2.1) ∧ (∀ t ∈ i.1, t.ok) ∧ p ≤ i.2.2.2 ∧ i.2.2.2 ≤ p + 1 + 10 * i.1.length) (fun i => i.2.2.1.toNat) ([], 0, r1, p + 1) ?_ (Wk.pick [0, 1, 2]) ?_
  · simp only [List.length_nil]; refine ⟨by omega, by simp, by omega⟩
  rintro ⟨L, cap, k, q⟩ ⟨⟨hk1, hk2⟩, hL, hq1, hq2⟩
  simp only at hk1 hk2 hL hq1 hq2
  simp only [l1_spec_l20Set, go_sem, Int.reduceToNat, List.take_nil, Nat.zero_mul, Nat.reduceEqDiff, Nat.reduceAdd, Nat.reduceLT, Nat.reduceLeDiff, Nat.reduceMul, ↓reduceIte, reduceCtorEq]
  refine ⟨fun hk => ?_, fun hk => ?_⟩
  · refine spec_l20Task_ (Rdr.of (τ := [_])) hC (by omega) _ (by omega) fun t q' hq3 hq4 _ hok => ?_
    simp only [go_sem, Int.reduceToNat, List.take_nil, Nat.zero_mul, Nat.reduceEqDiff, Nat.reduceAdd, Nat.reduceLT, Nat.reduceLeDiff, Nat.reduceMul, ↓reduceIte, reduceCtorEq, lenT, rdT0, rdT1, rdT2, winT, takeT, appT, splT, splI, winI, lenI, rdI, takeI, appI]
    refine ⟨by omega, fun cap' hcap => ?_⟩
    refine ⟨by omega, (L ++ [t], cap', k - 1, q'), ⟨⟨by simp only [List.length_append, List.length_cons, List.length_nil]; omega, ?_, ?_⟩, by simp only; omega⟩, Wk.pick [0, 1, 4]⟩
    · intro u hu
      rcases List.mem_append.1 hu with hu | hu
      · exact hL u hu
      · rw [List.mem_singleton.1 hu]; exact hok (by omega)
    · simp only [List.length_append, List.length_cons, List.length_nil]; omega
  · refine seq_join (fun i : List Task × Nat × Int => ⟨[(5, .sl 2 0 i.1.length i.2.1)], rdr B c i.2.2 ++ [.rw ty_impl_Task (encTask.row i.1) (i.2.1 * 3)]⟩)
      (fun i => i.1.length ≤ 8 ∧ (∀ t ∈ i.1, wildT t) ∧ (n ≤ 0 → setOk i.1) ∧ p ≤ i.2.2 ∧ i.2.2 ≤ p + 200) ?_ ?_
    · simp only [go_sem, Int.reduceToNat, List.take_nil, Nat.zero_mul, Nat.reduceEqDiff, Nat.reduceAdd, Nat.reduceLT, Nat.reduceLeDiff, Nat.reduceMul, ↓reduceIte, reduceCtorEq]
      refine spec_l20Rd_odd_ (Rdr.of (τ := [_])) hC (by omega) _ (by omega) fun b q1 hb1 hb2 hb3 => ?_
      simp only [go_sem, Int.reduceToNat, List.take_nil, Nat.zero_mul, Nat.reduceEqDiff, Nat.reduceAdd, Nat.reduceLT, Nat.reduceLeDiff, Nat.reduceMul, ↓reduceIte, reduceCtorEq]
      refine bc_of (fun hb => ?_) (fun hb => ?_)
      · have hn0 : ¬ n ≤ 0 := fun h => by rw [hb3 h] at hb; cases hb
        refine spec_l20Rd_pick_ (Rdr.of (τ := [_])) hC (by omega) _ (by omega) fun r4 h41 h42 _ => ?_
        simp only [go_sem, Int.reduceToNat, List.take_nil, Nat.zero_mul, Nat.reduceEqDiff, Nat.reduceAdd, Nat.reduceLT, Nat.reduceLeDiff, Nat.reduceMul, ↓reduceIte, reduceCtorEq]
        refine ⟨fun h0 => ?_, fun h0 => ?_⟩
        · refine loop_intro (fun i : List Task × Nat × Int => ⟨[(0, .p 1 0), (5, .sl 2 0 i.1.length i.2.1)], rdr B c i.2.2 ++ [.rw ty_impl_Task (encTask.row i.1) (i.2.1 * 3)]⟩)
            (fun i => i.1.length ≤ 6 ∧ (∀ t ∈ i.1, wildT t) ∧ p ≤ i.2.2 ∧ i.2.2 ≤ p + 60 + 10 * i.1.length) (fun i => 6 - i.1.length) (L, cap, q1 + 1) ⟨by simp only; omega, fun t ht => ok_wild (hL t ht), by simp only; omega⟩ (Wk.pick [0, 1, 2]) ?_
          rintro ⟨L, cap, q⟩ ⟨hl, hL, hq1, hq2⟩
          simp only at hl hL hq1 hq2
          simp only [l0_spec_l20Set, go_sem, Int.reduceToNat, List.take_nil, Nat.zero_mul, Nat.reduceEqDiff, Nat.reduceAdd, Nat.reduceLT, Nat.reduceLeDiff, Nat.reduceMul, ↓reduceIte, reduceCtorEq]
          refine ⟨fun hk => ?_, fun hk => ?_⟩
          · refine spec_l20Task_ (Rdr.of (τ := [_])) hC (by omega) _ (by omega) fun t q' hq3 hq4 hw _ => ?_
            simp only [go_sem, Int.reduceToNat, List.take_nil, Nat.zero_mul, Nat.reduceEqDiff, Nat.reduceAdd, Nat.reduceLT, Nat.reduceLeDiff, Nat.reduceMul, ↓reduceIte, reduceCtorEq, lenT, rdT0, rdT1, rdT2, winT, takeT, appT, splT, splI, winI, lenI, rdI, takeI, appI]
            refine ⟨by omega, fun cap' hcap => ⟨(L ++ [t], cap', q'), ⟨⟨by simp only [List.length_append, List.length_cons, List.length_nil]; omega, ?_, ?_⟩, by simp only [List.length_append, List.length_cons, List.length_nil]; omega⟩, Wk.pick [0, 1, 4]⟩⟩
            · intro u hu
              rcases List.mem_append.1 hu with hu | hu
              · exact hL u hu
              · rw [List.mem_singleton.1 hu]; exact hw
            · simp only [List.length_append, List.length_cons, List.length_nil]; omega
          · refine spec_l20Task_ (Rdr.of (τ := [_])) hC (by omega) _ (by omega) fun t q' hq3 hq4 hw _ => ?_
            simp only [go_sem, Int.reduceToNat, List.take_nil, Nat.zero_mul, Nat.reduceEqDiff, Nat.reduceAdd, Nat.reduceLT, Nat.reduceLeDiff, Nat.reduceMul, ↓reduceIte, reduceCtorEq, lenT, rdT0, rdT1, rdT2, winT, takeT, appT, splT, splI, winI, lenI, rdI, takeI, appI]
            refine ⟨by omega, fun cap' hcap => kJ_intro (L ++ [t], cap', q') ⟨by simp only [List.length_append, List.length_cons, List.length_nil]; omega, ?_, fun h => absurd h hn0, by simp only; omega⟩ (Wk.pick [0, 1, 4])⟩
            intro u hu
            rcases List.mem_append.1 hu with hu | hu
            · exact hL u hu
            · rw [List.mem_singleton.1 hu]; exact hw
        · refine spec_l20Task_ (Rdr.of (τ := [_])) hC (by omega) _ (by omega) fun t q' hq3 hq4 hw _ => ?_
          simp only [go_sem, Int.reduceToNat, List.take_nil, Nat.zero_mul, Nat.reduceEqDiff, Nat.reduceAdd, Nat.reduceLT, Nat.reduceLeDiff, Nat.reduceMul, ↓reduceIte, reduceCtorEq, lenT, rdT0, rdT1, rdT2, winT, takeT, appT, splT, splI, winI, lenI, rdI, takeI, appI]
          refine ⟨by omega, fun cap' hcap => kJ_intro (L ++ [t], cap', q') ⟨by simp only [List.length_append, List.length_cons, List.length_nil]; omega, ?_, fun h => absurd h hn0, by simp only; omega⟩ (Wk.pick [0, 1, 4])⟩
          intro u hu
          rcases List.mem_append.1 hu with hu | hu
          · exact (fun u hu => ok_wild (hL u hu)) u hu
          · rw [List.mem_singleton.1 hu]; exact hw
      · refine kJ_intro (L, cap, q1) ⟨by simp only; omega, fun t ht => ok_wild (hL t ht), fun _ => ⟨by simp only; omega, hL⟩, by simp only; omega⟩ (Wk.pick [0, 1, 2])
    · rintro ⟨L, cap, q⟩ ⟨hl, hL, hok, hq1, hq2⟩
      simp only at hl hL hok hq1 hq2
      simp only [go_sem, Int.reduceToNat, List.take_nil, Nat.zero_mul, Nat.reduceEqDiff, Nat.reduceAdd, Nat.reduceLT, Nat.reduceLeDiff, Nat.reduceMul, ↓reduceIte, reduceCtorEq]
      exact Fin.plain ⟨q, _, rfl, ⟨hq1, hq2⟩, L, cap, rfl, rfl, hl, hL, hok⟩
theorem spec_l20Set_ {σ : List AB} {n m o c : Nat} {B : List Nat} {p : Int} (h : Rdr ty_spec_l20Rd σ n B p m o c) (hC : Code B) (hp : 0 ≤ p ∧ p ≤ 3700000000000) (k : Int) (hk : k ≤ 1000) {K : AV → List AB → Prop}
    (hK : ∀ (L : List Task) (cap : Nat) (p' : Int), p ≤ p' → p' ≤ p + 200 → L.length ≤ 8 → (∀ t ∈ L, wildT t) → (k ≤ 0 → setOk L) → K (.sl σ.length 0 L.length cap) (σ.set n (.rw ty_spec_l20Rd [.sl m o B.length c, .i .i64 p'] 2) ++ [.rw ty_impl_Task (encTask.row L) (cap * 3)])) :
    CallWp Tryz.prog n_spec_l20Set [.p n 0, .i .i64 k] σ K := by
  refine call_rdr ty_spec_l20Rd h [] (by simp) (fun _ => [.i .i64 k]) (SetP k p) (fun _ => spec_l20Set0 B p hC hp k hk c) ?_ (fun _ _ _ => ⟨.inl rfl, trivial⟩) (fun _ => rfl) ?_
  · rintro x p' τ ⟨_, L, cap, rfl, rfl, _⟩; exact ⟨by simp [plainRw, encTask.row_flat], rfl⟩
  · rintro x p' τ ⟨⟨h1, h2⟩, L, cap, rfl, rfl, h3, h4, h5⟩
    exact hK L cap p' h1 h2 h3 h4 h5
theorem Sl.own {α : Type} {E : Enc α} {σ : List AB} {n q cap : Nat} {L : List α} (h : cellsOf σ q = some (E.row L)) (hq : q ≠ n) : (⟨.sl q 0 L.length cap, L.length, E.row L⟩ : Sl).okx σ n := by
  refine ⟨E.row_flat L, .inl ⟨q, 0, cap, E.row L, rfl, hq, ?_, h, by simp, by simp [Abs.win]⟩⟩
  rcases cellsOf_cases h with hh | ⟨_, _, hh⟩ <;> exact (List.getElem?_eq_some_iff.1 hh).1
end Go.Proofs.YtfngcejaphhmmaaGreatDoor
